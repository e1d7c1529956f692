import Derived.Test.YtjgnpaifdbanjaaDoorHex
import Derived.Test.YtjgnpaifdbanjaaDoorUtf
import Derived.Lib.QuoteLoop
set_option linter.unusedSimpArgs false
set_option linter.unusedVariables false
namespace Go.Proofs.YtjgnpaifdbanjaaDoor
open Go.RowKit
set_option maxRecDepth 100000

/-! a token in quotes -/
def quoS (l acc : List UInt8) (at_ : Nat) : Option (List UInt8 × Nat) :=
  match l with
  | [] => none
  | c :: r =>
    if c.toNat = 34 then some (acc, at_ + 1)
    else if c.toNat < 32 then none
    else if c.toNat ≠ 92 then
      match u8dec (c :: r) with
      | none => none
      | some (_, n) => quoS (r.drop (n - 1)) (acc ++ (c :: r).take n) (at_ + n)
    else if (Lib.hasPrefix r [34] || Lib.hasPrefix r [92]) = true then quoS (r.drop 1) (acc ++ r.take 1) (at_ + 2)
    else if r.length < 5 then none
    else if ¬ (r.headD 0).toNat = 117 then none
    else if ¬ Lib.trimS ((r.drop 1).take 4) hexL = [] then none
    else match u8enc (hexV ((r.drop 1).take 4)) with
      | none => none
      | some x => quoS (r.drop 5) (acc ++ x) (at_ + 6)
termination_by l.length
decreasing_by all_goals (simp; omega)

def quoRes (o : Option (List UInt8 × Nat)) : Value := match o with
  | some (x, k) => .tuple #[str x, .int .i64 k, .bool true]
  | none => .tuple #[str [], .int .i64 0, .bool false]

theorem u8dec_n {l : List UInt8} {c n : Nat} (h : u8dec l = some (c, n)) : 1 ≤ n ∧ n ≤ l.length := by
  unfold u8dec at h
  split at h
  · cases h
  · split at h
    · cases h
    · rename_i h0
      have hlen : 0 < (⟨l.toArray⟩ : ByteArray).size := by
        rw [size_mk]
        cases l with
        | nil => exact absurd rfl h0
        | cons => simp
      have hd : Lib.decodeGo ⟨l.toArray⟩ = Utf8.decode ⟨l.toArray⟩ 0 := by unfold Lib.decodeGo; rw [if_neg (by omega)]
      have h1 := decode_pos ⟨l.toArray⟩ 0
      have h2 := Lib.width_le ⟨l.toArray⟩ hlen
      rw [size_mk] at h2
      have e : (Utf8.decode ⟨l.toArray⟩ 0).2 = n := by rw [← hd]; exact congrArg Prod.snd (Option.some.inj h)
      rw [e] at h1 h2
      exact ⟨h1, h2⟩

theorem drop_more {s : List UInt8} {p : Nat} {c : UInt8} {r : List UInt8} (h : s.drop p = c :: r) (n : Nat) (hn : 1 ≤ n) : s.drop (p + n) = r.drop (n - 1) := by
  rw [← List.drop_drop, h]
  cases n with
  | zero => omega
  | succ n => rfl
theorem take_more {s : List UInt8} {p : Nat} {c : UInt8} {r : List UInt8} (h : s.drop p = c :: r) (n : Nat) : (s.take (p + n)).drop p = (c :: r).take n := by
  rw [List.drop_take, h, Nat.add_sub_cancel_left]

theorem u8enc_le {r : Int} {x : List UInt8} (h : u8enc r = some x) : x.length ≤ 4 := by
  unfold u8enc at h
  split at h
  · cases h
    have : (Utf8.encode r).data.toList.length = (Utf8.encode r).size := Array.length_toList
    rw [this]
    unfold Utf8.encode
    generalize (if Utf8.valid r then r.toNat else Utf8.runeError) = c
    simp only []
    split
    · exact Nat.le_of_ble_eq_true rfl
    · split
      · exact Nat.le_of_ble_eq_true rfl
      · split <;> exact Nat.le_of_ble_eq_true rfl
  · cases h

set_option maxHeartbeats 4000000 in
theorem quoted_calls (H : Hp) (hT : Tabs H) (s : List UInt8) (hs : s.length ≤ 1000000) (w0 : World) (hin : H.In w0) :
    Calls Tryd.prog 22 #[str s] w0 fun e w' => e = .returned (quoRes (quoS (s.drop 1) [] 1)) ∧ Below w0.heap.size w0 w' := by
  have T := Tr.start (St.nil hin)
  have HT := hid hT; clear hT
  go_enter Tryd.func22, Tryd.ntmps22
  go_upto_region 3 with (first
    | ((with_reducible refine is_alloc ?_); (refine op_alloc ?_ (zrOf _ rfl) T ?_; focus (first | exact fun _ => rfl | (refine wanted_of rfl ?_; first | rfl | assumption | (rw [Bool.eq_false_iff]; assumption) | (simp only [decide_eq_false_iff_not, decide_eq_true_eq]; omega) | (simp; done) | (simp; omega) | (simp_all; done)))); clear T; intro w b T; (try simp only [puts, Value.cells, List.set_cons_zero, List.set_cons_succ, List.setIfInBounds_toArray, Nat.reduceAdd, Nat.zero_add] at T); (try simp only [Act.put, List.setIfInBounds_toArray, List.set_cons_succ, List.set_cons_zero]))
    | ((with_reducible refine is_box ?_); (refine op_box ?_ rfl T ?_; focus (first | exact fun _ => rfl | (refine wanted_of rfl ?_; first | rfl | assumption | (rw [Bool.eq_false_iff]; assumption) | (simp only [decide_eq_false_iff_not, decide_eq_true_eq]; omega) | (simp; done) | (simp; omega) | (simp_all; done)))); clear T; intro w b T; (try simp only [puts, Value.cells, List.set_cons_zero, List.set_cons_succ, List.setIfInBounds_toArray, Nat.reduceAdd, Nat.zero_add] at T); (try simp only [Act.put, List.setIfInBounds_toArray, List.set_cons_succ, List.set_cons_zero]))
    | ((with_reducible refine is_load ?_); (first
      | (refine op_load1_own ?_ 0 T rfl rfl (agOf _ rfl) rfl ?_; focus (first | exact fun _ => rfl | (refine wanted_of rfl ?_; first | rfl | assumption | (rw [Bool.eq_false_iff]; assumption) | (simp only [decide_eq_false_iff_not, decide_eq_true_eq]; omega) | (simp; done) | (simp; omega) | (simp_all; done))))
      | (refine op_load1_own ?_ 1 T rfl rfl (agOf _ rfl) rfl ?_; focus (first | exact fun _ => rfl | (refine wanted_of rfl ?_; first | rfl | assumption | (rw [Bool.eq_false_iff]; assumption) | (simp only [decide_eq_false_iff_not, decide_eq_true_eq]; omega) | (simp; done) | (simp; omega) | (simp_all; done))))
      | (refine op_load1_own ?_ 2 T rfl rfl (agOf _ rfl) rfl ?_; focus (first | exact fun _ => rfl | (refine wanted_of rfl ?_; first | rfl | assumption | (rw [Bool.eq_false_iff]; assumption) | (simp only [decide_eq_false_iff_not, decide_eq_true_eq]; omega) | (simp; done) | (simp; omega) | (simp_all; done))))
      | (refine op_load1_own ?_ 3 T rfl rfl (agOf _ rfl) rfl ?_; focus (first | exact fun _ => rfl | (refine wanted_of rfl ?_; first | rfl | assumption | (rw [Bool.eq_false_iff]; assumption) | (simp only [decide_eq_false_iff_not, decide_eq_true_eq]; omega) | (simp; done) | (simp; omega) | (simp_all; done))))
      | (refine op_loads_own ?_ 0 T rfl rfl (agOf _ rfl) (szOf _ rfl) ?_; focus (first | exact fun _ => rfl | (refine wanted_of rfl ?_; first | rfl | assumption | (rw [Bool.eq_false_iff]; assumption) | (simp only [decide_eq_false_iff_not, decide_eq_true_eq]; omega) | (simp; done) | (simp; omega) | (simp_all; done))))
      | (refine op_loads_own ?_ 1 T rfl rfl (agOf _ rfl) (szOf _ rfl) ?_; focus (first | exact fun _ => rfl | (refine wanted_of rfl ?_; first | rfl | assumption | (rw [Bool.eq_false_iff]; assumption) | (simp only [decide_eq_false_iff_not, decide_eq_true_eq]; omega) | (simp; done) | (simp; omega) | (simp_all; done))))
      | (refine op_loads_own ?_ 2 T rfl rfl (agOf _ rfl) (szOf _ rfl) ?_; focus (first | exact fun _ => rfl | (refine wanted_of rfl ?_; first | rfl | assumption | (rw [Bool.eq_false_iff]; assumption) | (simp only [decide_eq_false_iff_not, decide_eq_true_eq]; omega) | (simp; done) | (simp; omega) | (simp_all; done))))); (try simp only [Act.put, List.setIfInBounds_toArray, List.set_cons_succ, List.set_cons_zero]))
    | ((with_reducible refine is_store ?_); (first
      | (refine op_store_own ?_ 0 T rfl rfl rfl (szOf _ rfl) (Nat.le_of_ble_eq_true rfl) rfl ?_; focus (first | exact fun _ => rfl | (refine wanted_of rfl ?_; first | rfl | assumption | (rw [Bool.eq_false_iff]; assumption) | (simp only [decide_eq_false_iff_not, decide_eq_true_eq]; omega) | (simp; done) | (simp; omega) | (simp_all; done))))
      | (refine op_store_own ?_ 1 T rfl rfl rfl (szOf _ rfl) (Nat.le_of_ble_eq_true rfl) rfl ?_; focus (first | exact fun _ => rfl | (refine wanted_of rfl ?_; first | rfl | assumption | (rw [Bool.eq_false_iff]; assumption) | (simp only [decide_eq_false_iff_not, decide_eq_true_eq]; omega) | (simp; done) | (simp; omega) | (simp_all; done))))
      | (refine op_store_own ?_ 2 T rfl rfl rfl (szOf _ rfl) (Nat.le_of_ble_eq_true rfl) rfl ?_; focus (first | exact fun _ => rfl | (refine wanted_of rfl ?_; first | rfl | assumption | (rw [Bool.eq_false_iff]; assumption) | (simp only [decide_eq_false_iff_not, decide_eq_true_eq]; omega) | (simp; done) | (simp; omega) | (simp_all; done))))
      | (refine op_store_own ?_ 3 T rfl rfl rfl (szOf _ rfl) (Nat.le_of_ble_eq_true rfl) rfl ?_; focus (first | exact fun _ => rfl | (refine wanted_of rfl ?_; first | rfl | assumption | (rw [Bool.eq_false_iff]; assumption) | (simp only [decide_eq_false_iff_not, decide_eq_true_eq]; omega) | (simp; done) | (simp; omega) | (simp_all; done))))); clear T; intro w T; (try simp only [puts, Value.cells, List.set_cons_zero, List.set_cons_succ, List.setIfInBounds_toArray, Nat.reduceAdd, Nat.zero_add] at T); (try simp only [Act.put, List.setIfInBounds_toArray, List.set_cons_succ, List.set_cons_zero])))
  have HB := hid (BS.fresh b)
  obtain ⟨E, hE⟩ : ∃ E, E = [(b, Obj.cells #[.pointer none, .slice none 0 0] 42 (0, 0))] := ⟨_, rfl⟩
  rw [← hE] at HB T
  clear hE
  obtain ⟨bb, rfl⟩ : ∃ x, x = b := ⟨_, rfl⟩
  go_loopg [2, 3, 4, 6, 7, 8, 9, 10, 11, 12, 13, 14] (s.length + 1) (fun n _ _ _ s6 _ _ _ _ _ _ _ _ wr => ∃ (p : Nat) (l : List UInt8) (E : Own), 1 ≤ p ∧ n = s.length + 2 - p ∧ s6 = .int .i64 p ∧ l.length ≤ p ∧ p ≤ s.length + 1 ∧
    Hid (quoS (s.drop 1) [] 1 = quoS (s.drop p) l p) ∧ Hid (BS bb l E) ∧ Tr w0 H [] wr H E)
  case atStart => exact ⟨1, [], E, by omega, by omega, rfl, by simp, by omega, hid rfl, HB, T⟩
  case round =>
    clear T HB E
    obtain ⟨p, l, E, hp1, hn, rfl, hll, hp, HQ, HB, T⟩ := hrel
    have Hn := hid hn; clear hn
    rcases Nat.lt_or_ge p s.length with hlt | hge
    · obtain ⟨c, r, hcr⟩ : ∃ c r, s.drop p = c :: r := ⟨s[p], s.drop (p + 1), List.drop_eq_getElem_cons hlt⟩
      have hsp : s[p] = c := by have := List.drop_eq_getElem_cons hlt; rw [hcr] at this; cases this; rfl
      have Hcr := hid hcr; clear hcr
      have hrl : r.length = s.length - p - 1 := by have := congrArg List.length Hcr.out; simp only [List.length_drop, List.length_cons] at this; omega
      have hq := HQ.out
      rw [Hcr.out, quoS] at hq
      have Hq := hid hq; clear hq HQ
      by_cases h34 : c.toNat = 34
      · have hb1 : ((c.toNat : Int) == 34) = true := by rw [beq_iff_eq]; omega
        go_wp2_with (first
    | (go_at_call 17; refine (String_calls HB.out T.st (by omega)).mono ?_; rintro e w ⟨rfl, C⟩; replace T := T.trans C; clear C))
        (try simp only [Exit.inBlock, Exit.then]); refine ret3_of rfl rfl rfl rfl rfl ?_
        exact ⟨by rw [Hq.out, if_pos h34]; rfl, T.below⟩
      · have hb1 : ((c.toNat : Int) == 34) = false := by rw [Bool.eq_false_iff]; intro h; rw [beq_iff_eq] at h; omega
        by_cases h32 : c.toNat < 32
        · have hb2 : decide ((c.toNat : Int) < 32) = true := decide_eq_true (by omega)
          go_wp2
          (try simp only [Exit.inBlock, Exit.then]); refine ret3_of rfl rfl rfl rfl rfl ?_
          exact ⟨by rw [Hq.out, if_neg h34, if_pos h32]; rfl, T.below⟩
        · have hb2 : decide ((c.toNat : Int) < 32) = false := decide_eq_false (by omega)
          by_cases h92 : c.toNat = 92
          · have hb3 : ((c.toNat : Int) != 92) = false := by rw [h92]; rfl
            replace Hq := hid (by have := Hq.out; rw [if_neg h34, if_neg h32, if_neg (by omega)] at this; exact this)
            have hb4 : ((c.toNat : Int) == 92) = true := by rw [h92]; rfl
            clear h34 h32 h92
            obtain ⟨q1, hq1⟩ : ∃ q, Lib.hasPrefix r [34] = q := ⟨_, rfl⟩
            obtain ⟨q2, hq2⟩ : ∃ q, Lib.hasPrefix r [92] = q := ⟨_, rfl⟩
            have Hq1 := hid hq1; have Hq2 := hid hq2
            have hr1 : s.drop (p + 1) = r := by rw [drop_more Hcr.out 1 (by omega)]; rfl
            have Hr1 := hid hr1; clear hr1
            rw [hq1, hq2] at Hq
            by_cases hqq : (q1 || q2) = true
            · replace Hq := hid (by have := Hq.out; rw [if_pos hqq] at this; exact this)
              obtain ⟨d, r', rfl⟩ : ∃ d r', r = d :: r' := by
                cases r with
                | nil => rw [← hq1, ← hq2] at hqq; cases hqq
                | cons d r' => exact ⟨d, r', rfl⟩
              clear hq1 hq2
              simp only [List.length_cons] at hrl
              have hlt1 : p + 1 < s.length := by omega
              have hsp1 : s[p + 1] = d := by have := List.drop_eq_getElem_cons hlt1; rw [Hr1.out] at this; cases this; rfl
              cases q1 <;> cases q2
              · cases hqq
              all_goals
                clear hqq
                go_wp2_with (first
    | (go_at_call 29; refine (HasPrefix_l _ _ _).mono ?_; rintro e w ⟨rfl, hb⟩; replace T := T.of_below hb; clear hb; (try rw [List.take_length]); rw [Hr1.out]; first | rw [Hq1.out] | rw [Hq2.out])
    | (go_at_call 14; refine (WriteByte_calls HB.out T.st d (by omega)).mono ?_; clear HB; rintro e w ⟨E', rfl, hB, C⟩; replace T := T.trans C; have HB := hid hB; clear C hB))
                go_roundg (s.length - p)
                case measure => have := Hn.out; omega
                case rel =>
                  refine ⟨p + 2, _, E', by omega, by omega, by congr 1, by simp; omega, by omega, hid ?_, HB, T⟩
                  rw [Hq.out, drop_more Hcr.out 2 (by omega)]; rfl
            · replace Hq := hid (by have := Hq.out; rw [if_neg hqq] at this; exact this)
              have e1 : q1 = false := by cases q1 with | false => rfl | true => exact absurd rfl hqq
              have e2 : q2 = false := by cases q2 with | false => rfl | true => exact absurd (by cases q1 <;> rfl) hqq
              subst e1; subst e2
              clear hqq hq1 hq2
              by_cases h5 : r.length < 5
              · have hb5 : decide ((s.length : Int) < (p : Int) + 6) = true := decide_eq_true (by omega)
                go_wp2_with (first
    | (go_at_call 29; refine (HasPrefix_l _ _ _).mono ?_; rintro e w ⟨rfl, hb⟩; replace T := T.of_below hb; clear hb; (try rw [List.take_length]); rw [Hr1.out]; first | rw [Hq1.out] | rw [Hq2.out]))
                (try simp only [Exit.inBlock, Exit.then]); refine ret3_of rfl rfl rfl rfl rfl ?_
                exact ⟨by rw [Hq.out, if_pos h5]; rfl, T.below⟩
              · have hb5 : decide ((s.length : Int) < (p : Int) + 6) = false := decide_eq_false (by omega)
                replace Hq := hid (by have := Hq.out; rw [if_neg h5] at this; exact this)
                have h5' : 5 ≤ r.length := by omega
                clear h5
                obtain ⟨d, r', rfl⟩ : ∃ d r', r = d :: r' := by
                  cases r with
                  | nil => simp at h5'
                  | cons d r' => exact ⟨d, r', rfl⟩
                simp only [List.length_cons] at hrl h5'
                have hlt1 : p + 1 < s.length := by omega
                have hsp1 : s[p + 1] = d := by have := List.drop_eq_getElem_cons hlt1; rw [Hr1.out] at this; cases this; rfl
                by_cases h117 : d.toNat = 117
                · have hb6 : ((d.toNat : Int) != 117) = false := by rw [h117]; rfl
                  replace Hq := hid (by have := Hq.out; rw [if_neg (by exact fun h => h h117)] at this; exact this)
                  clear h117
                  have hx4 : (s.take (p + 6)).drop (p + 2) = (List.drop 1 (d :: r')).take 4 := by
                    rw [List.drop_take, drop_more Hcr.out 2 (by omega)]
                    congr 1; omega
                  have Hx4 := hid hx4; clear hx4
                  have hxl : ((List.drop 1 (d :: r')).take 4).length = 4 := by simp; omega
                  generalize ((List.drop 1 (d :: r')).take 4) = x4 at *
                  cases ht : Lib.trimS x4 hexL with
                  | cons y t =>
                    have Ht := hid ht; clear ht
                    go_wp2_with (first
    | (go_at_call 29; refine (HasPrefix_l _ _ _).mono ?_; rintro e w ⟨rfl, hb⟩; replace T := T.of_below hb; clear hb; (try rw [List.take_length]); rw [Hr1.out]; first | rw [Hq1.out] | rw [Hq2.out])
    | (go_at_call 30; refine (Trim_set _ hexL (by simp; omega) (by decide) (by unfold ascii; decide) _).mono ?_; rintro e w ⟨rfl, hb⟩; replace T := T.of_below hb; clear hb; rw [Hx4.out, Ht.out]))
                    (try simp only [Exit.inBlock, Exit.then]); refine ret3_of rfl rfl rfl rfl rfl ?_
                    exact ⟨by rw [Hq.out, Ht.out, if_pos (by simp)]; rfl, T.below⟩
                  | nil =>
                    have hxa : x4.all (hexL.contains ·) = true := (trimS_empty x4 hexL).1 ht
                    have hV := hexV_lt x4 hxa
                    rw [hxl] at hV
                    have Ht := hid ht; have Hxa := hid hxa; have Hxl := hid hxl
                    replace Hq := hid (by have := Hq.out; rw [if_neg (fun h => h ht)] at this; exact this)
                    clear ht hxa hxl
                    generalize hVe : hexV x4 = V at *
                    have HV := hid hVe; clear hVe
                    have hV2 : (V : Int) ≤ 65535 := by simp only [Nat.reducePow] at hV; omega
                    clear hV
                    cases hu : u8enc (V : Int) with
                    | none =>
                      have he : encRes V = .tuple #[str [], .int .i64 1] := by unfold encRes; rw [hu]
                      rw [hu] at Hq
                      have He := hid he; clear hu he
                      go_wp2_with (first
    | (go_at_call 29; refine (HasPrefix_l _ _ _).mono ?_; rintro e w ⟨rfl, hb⟩; replace T := T.of_below hb; clear hb; (try rw [List.take_length]); rw [Hr1.out]; first | rw [Hq1.out] | rw [Hq2.out])
    | (go_at_call 30; refine (Trim_set _ hexL (by simp; omega) (by decide) (by unfold ascii; decide) _).mono ?_; rintro e w ⟨rfl, hb⟩; replace T := T.of_below hb; clear hb; rw [Hx4.out, Ht.out])
    | (go_at_call 31; rw [Hx4.out]; refine (ParseUint_calls _ Hxl.out Hxa.out _).mono ?_; rintro e w ⟨rfl, hb⟩; replace T := T.of_below hb; clear hb; rw [HV.out])
    | (go_at_call 32; refine (Encode_calls _ (by omega) (by omega) _).mono ?_; rintro e w ⟨rfl, hb⟩; replace T := T.of_below hb; clear hb; rw [He.out]))
                      (try simp only [Exit.inBlock, Exit.then]); refine ret3_of rfl rfl rfl rfl rfl ?_
                      exact ⟨by rw [Hq.out]; rfl, T.below⟩
                    | some x =>
                      have he : encRes V = .tuple #[str x, .int .i64 0] := by unfold encRes; rw [hu]
                      have hx4l : x.length ≤ 4 := u8enc_le hu
                      rw [hu] at Hq
                      have He := hid he; clear hu he
                      go_wp2_with (first
    | (go_at_call 29; refine (HasPrefix_l _ _ _).mono ?_; rintro e w ⟨rfl, hb⟩; replace T := T.of_below hb; clear hb; (try rw [List.take_length]); rw [Hr1.out]; first | rw [Hq1.out] | rw [Hq2.out])
    | (go_at_call 30; refine (Trim_set _ hexL (by simp; omega) (by decide) (by unfold ascii; decide) _).mono ?_; rintro e w ⟨rfl, hb⟩; replace T := T.of_below hb; clear hb; rw [Hx4.out, Ht.out])
    | (go_at_call 31; rw [Hx4.out]; refine (ParseUint_calls _ Hxl.out Hxa.out _).mono ?_; rintro e w ⟨rfl, hb⟩; replace T := T.of_below hb; clear hb; rw [HV.out])
    | (go_at_call 32; refine (Encode_calls _ (by omega) (by omega) _).mono ?_; rintro e w ⟨rfl, hb⟩; replace T := T.of_below hb; clear hb; rw [He.out])
    | (go_at_call 15; refine (WriteString_calls HB.out T.st _ (by omega)).mono ?_; clear HB; rintro e w ⟨E', rfl, hB, C⟩; replace T := T.trans C; have HB := hid hB; clear C hB))
                      go_roundg (s.length + 2 - (p + 6))
                      case measure => have := Hn.out; omega
                      case rel =>
                        refine ⟨p + 6, _, E', by omega, by omega, by congr 1, by simp; omega, by omega, hid ?_, HB, T⟩
                        rw [Hq.out, drop_more Hcr.out 6 (by omega)]
                · have hb6 : ((d.toNat : Int) != 117) = true := by rw [bne_iff_ne]; omega
                  go_wp2_with (first
    | (go_at_call 29; refine (HasPrefix_l _ _ _).mono ?_; rintro e w ⟨rfl, hb⟩; replace T := T.of_below hb; clear hb; (try rw [List.take_length]); rw [Hr1.out]; first | rw [Hq1.out] | rw [Hq2.out]))
                  (try simp only [Exit.inBlock, Exit.then]); refine ret3_of rfl rfl rfl rfl rfl ?_
                  exact ⟨by rw [Hq.out, if_pos (show ¬ ((d :: r').headD 0).toNat = 117 from h117)]; rfl, T.below⟩
          · have hb3 : ((c.toNat : Int) != 92) = true := by rw [bne_iff_ne]; omega
            replace Hq := hid (by have := Hq.out; rw [if_neg h34, if_neg h32, if_pos h92] at this; exact this)
            clear h34 h32 h92
            cases hu : u8dec (c :: r) with
            | none =>
              have Hu := hid hu; rw [hu] at Hq; clear hu
              go_upto_region 19 with (first
    | (go_at_call 28; refine (Decode_calls H HT.out s p hs hlt _ T.inn).mono ?_; rintro e w ⟨hr, hb⟩; replace T := T.of_below hb; clear hb; rw [Hcr.out] at hr; unfold decRes at hr; rw [Hu.out] at hr; simp only at hr; rcases hr with rfl | rfl))
              all_goals
                go_wp2
                (try simp only [Exit.inBlock, Exit.then]); refine ret3_of rfl rfl rfl rfl rfl ?_
                exact ⟨by rw [Hq.out]; rfl, T.below⟩
            | some cn =>
              obtain ⟨cc, n⟩ := cn
              have Hu := hid hu; rw [hu] at Hq; clear hu
              have hn2 := u8dec_n Hu.out
              rw [List.length_cons] at hn2
              go_wp2_with (first
    | (go_at_call 28; refine (Decode_calls H HT.out s p hs hlt _ T.inn).mono ?_; rintro e w ⟨hr, hb⟩; replace T := T.of_below hb; clear hb; rw [Hcr.out] at hr; unfold decRes at hr; rw [Hu.out] at hr; simp only at hr; subst hr)
    | (go_at_call 15; refine (WriteString_calls HB.out T.st _ (by simp; omega)).mono ?_; clear HB; rintro e w ⟨E', rfl, hB, C⟩; replace T := T.trans C; have HB := hid hB; clear C hB))
              go_roundg (s.length + 2 - (p + n))
              case measure => have := Hn.out; omega
              case rel =>
                refine ⟨p + n, _, E', by omega, by omega, by congr 1, by simp; omega, by omega, hid ?_, HB, T⟩
                rw [Hq.out, drop_more Hcr.out n hn2.1, take_more Hcr.out n]
    · have hd : s.drop p = [] := List.drop_of_length_le hge
      have hq : quoS (s.drop 1) [] 1 = none := by rw [HQ.out, hd, quoS]
      have Hq := hid hq; clear hq HQ
      go_wp2
      (try simp only [Exit.inBlock, Exit.then]); refine ret3_of rfl rfl rfl rfl rfl ?_
      exact ⟨by rw [Hq.out]; rfl, T.below⟩
end Go.Proofs.YtjgnpaifdbanjaaDoor
