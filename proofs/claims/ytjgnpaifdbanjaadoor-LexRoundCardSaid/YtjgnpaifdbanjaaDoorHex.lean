import Derived.Test.YtjgnpaifdbanjaaDoorLexA
import Derived.Lib.ConvBytes
import Derived.Deep.CutBlock
set_option linter.unusedSimpArgs false
set_option linter.unusedVariables false
namespace Go.Proofs.YtjgnpaifdbanjaaDoor
open Go.RowKit
set_option maxRecDepth 100000

/-! a text's bytes as a slice; hex digits -/
theorem Tr.modifyK {w0 H0 L0 w H b o L} (T : Tr w0 H0 L0 w H ((b, o) :: L)) (f : Obj → Obj) : Tr w0 H0 L0 { w with heap := w.heap.modify b f } H ((b, f o) :: L) := by
  have h1 : w.heap[b]? = some o := T.own _ (List.mem_cons_self ..)
  have hlt : b < w.heap.size := T.lt (List.mem_cons_self ..)
  have hm : w.heap.modify b f = w.heap.setIfInBounds b (f o) := by
    apply Array.ext_getElem?
    intro i
    rw [Array.getElem?_modify, Array.getElem?_setIfInBounds]
    split
    · subst_vars
      rw [h1]; rfl
    · rfl
  rw [hm]
  exact T.setObj 0 (b := b) (o := o) (o' := f o) rfl

theorem Tr.bytes {w0 H0 L0 w H L} (T : Tr w0 H0 L0 w H L) (e : TypeId) (s : List UInt8) :
    Tr w0 H0 L0 (Lib.bytesWorld w e ⟨s.toArray⟩) H ((w.heap.size, .cells (Lib.bytesCells w e ⟨s.toArray⟩) e ((Lib.bytesCells w e ⟨s.toArray⟩).size, (Lib.bytesCells w e ⟨s.toArray⟩).size + 1)) :: L) := by
  have T1 := (T.drew).alloc (.cells (Lib.bytesCells w e ⟨s.toArray⟩) e)
  exact T1.modifyK _

theorem bytesCells_at (w : World) (e : TypeId) (s : List UInt8) (j : Nat) (x : UInt8) (h : s[j]? = some x) : (Lib.bytesCells w e ⟨s.toArray⟩)[j]? = some (byteV x) := by
  have hj : j < s.length := by
    rcases Nat.lt_or_ge j s.length with h' | h'
    · exact h'
    · rw [List.getElem?_eq_none h'] at h; cases h
  unfold Lib.bytesCells
  rw [Array.getElem?_append_left (by simpa using hj)]
  rw [List.getElem?_eq_getElem hj] at h
  cases h
  simp [byteV, hj]

section
variable {P : Program} {a : Act} {w : World} {Q : Exit → Act → World → Prop} {ops : Array Oper} {rest : List Oper} {dst : Option Tmp} {ty : TypeId} {pos : String} {after : Array Edge} {guard : Option (Nat × Bool)}
  {w0 : World} {H0 H : Hp} {L0 L : Own}
theorem op_conv_bytes (hw : ∀ op, Region.wanted (Oper.mk dst op ty pos after guard) (yielded ops a.tmps) = true) {t t' e : TypeId} {x : Operand} {s : List UInt8} {u : TypeDesc} (hx : evalO a x = some (str s))
    (hs : P.underlying t = some u) (hd : P.underlying t' = some (.slice e)) (he : P.underlying e = some (.int .u8)) (T : Tr w0 H0 L0 w H L)
    (k : ∀ w' b (c : Array Value) cap, (∀ (j : Nat) (x : UInt8), s[j]? = some x → c[j]? = some (byteV x)) → Tr w0 H0 L0 w' H ((b, .cells c e (c.size, c.size + 1)) :: L) → wpList P ops Q rest (a.put dst (.slice (some ⟨b, 0, none⟩) s.length cap)) w') :
    wpList P ops Q (Oper.mk dst (.convert t t' x) ty pos after guard :: rest) a w := by
  refine wp_value (hw _) (v := .slice (some ⟨w.heap.size, 0, none⟩) s.length (grownCap w (⟨s.toArray⟩ : ByteArray).size 0 e)) (w' := Lib.bytesWorld w e ⟨s.toArray⟩) ?_ (k _ _ _ _ (bytesCells_at w e s) (T.bytes e s))
  simp only [execOp, eval_of hx]
  refine run_v ?_
  have := Lib.run_convert_string_bytes (P := P) w t t' e ⟨s.toArray⟩ hs hd he
  rw [size_mk] at this
  rw [size_mk]; exact this
end

def hexD (c : UInt8) : Nat := if 48 ≤ c.toNat ∧ c.toNat ≤ 57 then c.toNat - 48 else (c ||| 32).toNat - 87
def hexV (l : List UInt8) : Nat := l.foldl (fun a c => a * 16 + hexD c) 0

theorem hex_cases (c : UInt8) (h : hexL.contains c = true) : (48 ≤ c.toNat ∧ c.toNat ≤ 57) ∨ (¬ (48 ≤ c.toNat ∧ c.toNat ≤ 57) ∧ 97 ≤ (c ||| 32).toNat ∧ (c ||| 32).toNat ≤ 102 ∧ c.toNat ≠ 95 ∧ 57 < c.toNat) := by
  have : ∀ n : Fin 256, hexL.contains (UInt8.ofNat n.val) = true → (48 ≤ (UInt8.ofNat n.val).toNat ∧ (UInt8.ofNat n.val).toNat ≤ 57) ∨ (¬ (48 ≤ (UInt8.ofNat n.val).toNat ∧ (UInt8.ofNat n.val).toNat ≤ 57) ∧ 97 ≤ ((UInt8.ofNat n.val) ||| 32).toNat ∧ ((UInt8.ofNat n.val) ||| 32).toNat ≤ 102 ∧ (UInt8.ofNat n.val).toNat ≠ 95 ∧ 57 < (UInt8.ofNat n.val).toNat) := by decide +kernel
  have := this ⟨c.toNat, c.toNat_lt⟩
  simp only [UInt8.ofNat_toNat] at this
  exact this h

theorem bits_or32 (c : UInt8) : bits BinOp.or IntKind.u8 (c.toNat : Int) 32 = ((c ||| 32).toNat : Int) := by
  have : ∀ n : Fin 256, bits BinOp.or IntKind.u8 ((UInt8.ofNat n.val).toNat : Int) 32 = (((UInt8.ofNat n.val) ||| 32).toNat : Int) := by decide +kernel
  have := this ⟨c.toNat, c.toNat_lt⟩
  simp only [UInt8.ofNat_toNat] at this
  exact this

theorem lower_calls (c : UInt8) (w0 : World) :
    Calls Tryd.prog 64 #[.int .u8 c.toNat] w0 fun e w' => e = .returned (.int .u8 (c ||| 32).toNat) ∧ Below w0.heap.size w0 w' := by
  have T := Tr.start (St.nil (w := w0) (H := fun _ => none) (fun _ _ _ h => by cases h))
  go_enter Tryd.func64, Tryd.ntmps64
  go_wp2
  (try simp only [Exit.inBlock, Exit.then]); refine ret1_of rfl rfl rfl ?_
  exact ⟨by rw [← bits_or32], T.below⟩

theorem hexV_succ (l : List UInt8) (j : Nat) (c : UInt8) (h : l[j]? = some c) : hexV (l.take (j + 1)) = hexV (l.take j) * 16 + hexD c := by
  have hj : j < l.length := by
    rcases Nat.lt_or_ge j l.length with h' | h'
    · exact h'
    · rw [List.getElem?_eq_none h'] at h; cases h
  rw [List.getElem?_eq_getElem hj] at h
  cases h
  rw [List.take_succ_eq_append_getElem hj]
  unfold hexV
  rw [List.foldl_append]; rfl

theorem hexD_lt (c : UInt8) (h : hexL.contains c = true) : hexD c < 16 := by
  have := hex_cases c h
  unfold hexD; split <;> omega

theorem hexV_lt (l : List UInt8) (h : l.all (hexL.contains ·) = true) : hexV l < 16 ^ l.length := by
  have : ∀ (l : List UInt8), l.all (hexL.contains ·) = true → ∀ acc, l.foldl (fun a c => a * 16 + hexD c) acc < (acc + 1) * 16 ^ l.length := by
    intro l
    induction l with
    | nil => intro _ acc; simp
    | cons c l ih =>
      intro h acc
      simp only [List.all_cons, Bool.and_eq_true] at h
      have := hexD_lt c h.1
      refine Nat.lt_of_lt_of_le (ih h.2 _) ?_
      rw [List.length_cons, Nat.pow_succ, Nat.mul_comm (16 ^ l.length), ← Nat.mul_assoc]
      exact Nat.mul_le_mul_right _ (by show acc * 16 + hexD c + 1 ≤ _; omega)
  have := this l h 0
  rwa [Nat.zero_add, Nat.one_mul] at this

set_option maxHeartbeats 4000000 in
theorem ParseUintIn_calls (s : List UInt8) (hl : s.length = 4) (h : s.all (hexL.contains ·) = true) (w0 : World) :
    Calls Tryd.prog 52 #[str s, .int .i64 16, .int .i64 32] w0 fun e w' => e = .returned (.tuple #[.int .u64 (hexV s), .nilIface]) ∧ Below w0.heap.size w0 w' := by
  have T := Tr.start (St.nil (w := w0) (H := fun _ => none) (fun _ _ _ h => by cases h))
  obtain ⟨c0, s0, rfl⟩ : ∃ c s0, s = c :: s0 := by cases s with | nil => simp at hl | cons c s => exact ⟨c, s, rfl⟩
  have Ha := hid h; clear h
  have Hl := hid hl; clear hl
  go_enter Tryd.func52, Tryd.ntmps52
  go_upto_region 36 with (first
    | ((with_reducible refine is_convert (s := 9) ?_); (refine op_conv_bytes ?_ rfl Tryd.underlying9 (slOf _ rfl) Tryd.underlying5 T ?_; focus (first | exact fun _ => rfl | (refine wanted_of rfl ?_; first | rfl | assumption | (rw [Bool.eq_false_iff]; assumption) | (simp only [decide_eq_false_iff_not, decide_eq_true_eq]; omega) | (simp; done) | (simp; omega) | (simp_all; done)))); clear T; intro w b c cap hcb T; have Hcb := hid hcb; clear hcb; rw [Hl.out]; (try simp only [Act.put, List.setIfInBounds_toArray, List.set_cons_succ, List.set_cons_zero])))
  replace T := T.settle
  generalize hH : Hp.put (fun _ => none) b c 5 = HH at *
  have Hb : HH b = some (c, 5) := by rw [← hH]; exact Hp.put_self _ _ _ _
  have Hb := hid Hb; clear hH
  go_loopg [6, 7, 12, 13, 15, 16, 17, 101] 5 (fun n s6 s7 s12 s13 _ _ _ s101 wr => ∃ j : Nat, j ≤ 4 ∧ n = 5 - j ∧ s6 = .int .u64 0 ∧ s7 = .nilIface ∧ s12 = .bool false ∧ s13 = .int .u64 (hexV ((c0 :: s0).take j)) ∧ s101 = .int .i64 j ∧ Tr w0 (fun _ => none) [] wr HH [])
  case atStart => exact ⟨0, by omega, by omega, rfl, rfl, rfl, rfl, rfl, T⟩
  case round =>
    clear T
    obtain ⟨j, hj, hn, rfl, rfl, rfl, rfl, rfl, T⟩ := hrel
    have Hn := hid hn; clear hn
    have hb1 := hexV_lt ((c0 :: s0).take j) (by rw [List.all_eq_true]; intro x hx; exact List.all_eq_true.1 Ha.out x (List.mem_of_mem_take hx))
    have hb2 : hexV ((c0 :: s0).take j) < 16 ^ 4 := Nat.lt_of_lt_of_le hb1 (Nat.pow_le_pow_right (by omega) (by simp; omega))
    clear hb1
    generalize hV : hexV ((c0 :: s0).take j) = V at *
    have HV := hid hV; clear hV
    have hb3 : (V : Int) ≤ 65535 := by have := hb2; simp only [Nat.reducePow] at this; omega
    clear hb2
    rcases Nat.lt_or_ge j 4 with h4 | h4
    · obtain ⟨x, hx⟩ : ∃ x, (c0 :: s0)[j]? = some x := ⟨_, List.getElem?_eq_getElem (by rw [Hl.out]; exact h4)⟩
      have Hx := hid hx
      have hxh : hexL.contains x = true := List.all_eq_true.1 Ha.out x (List.mem_of_getElem? hx)
      have hcx : Hid (c[j]? = some (.int .u8 x.toNat)) := hid (Hcb.out j x hx)
      clear hx
      have hcs := hex_cases x hxh
      have hd16 := hexD_lt x hxh
      have hq : ((x.toNat : Int) == 95) = false := by rw [Bool.eq_false_iff]; intro h; rw [beq_iff_eq] at h; omega
      generalize hlo : (x ||| 32).toNat = lo at *
      have Hlo := hid hlo; clear hlo hxh
      go_upto_block 5 with (first
    | ((with_reducible refine is_load ?_); (refine op_load1_held ?_ T Hb.out rfl (agOf _ rfl) hcx.out ?_; focus (first | exact fun _ => rfl | (refine wanted_of rfl ?_; first | rfl | assumption | (rw [Bool.eq_false_iff]; assumption) | (simp only [decide_eq_false_iff_not, decide_eq_true_eq]; omega) | (simp; done) | (simp; omega) | (simp_all; done)))); (try simp only [Act.put, List.setIfInBounds_toArray, List.set_cons_succ, List.set_cons_zero])))
      go_cut [6, 7, 12, 16] (fun s6 s7 s12 s16 wx => s6 = .int .u64 0 ∧ s7 = .nilIface ∧ s12 = .bool false ∧ s16 = .int .u8 (hexD x) ∧ Tr w0 (fun _ => none) [] wx HH [])
      case first =>
        have Hcs := hid hcs; clear hcs
        rcases Hcs.out with ⟨ha, hb⟩ | ⟨ha, hb, hc, hd, he⟩
        · go_wp2
          go_meet
          refine ⟨rfl, rfl, rfl, ?_, T⟩
          congr 1; unfold hexD; rw [if_pos ⟨ha, hb⟩]; omega
        · go_wp2_with (first
    | (go_at_call 64; refine (lower_calls _ _).mono ?_; rintro e w ⟨rfl, hb⟩; replace T := T.of_below hb; clear hb; rw [Hlo.out]))
          all_goals
            go_meet
            refine ⟨rfl, rfl, rfl, ?_, T⟩
            congr 1; unfold hexD; rw [if_neg ha, Hlo.out]; omega
      case rest =>
        clear T
        obtain ⟨rfl, rfl, rfl, rfl, T⟩ := hcut
        have hs := hexV_succ _ _ _ Hx.out
        rw [HV.out] at hs
        have Hs := hid hs; clear hs hq hcs
        generalize hexD x = d at *
        have hg1 : decide ((1152921504606846976 : Int) ≤ V) = false := decide_eq_false (by omega)
        have hg2 : decide ((V : Int) * 16 + d < V * 16) = false := decide_eq_false (by omega)
        have hg3 : decide ((4294967295 : Int) < V * 16 + d) = false := decide_eq_false (by omega)
        go_wp2
        go_roundg (4 - j)
        case measure => have := Hn.out; omega
        case rel =>
          refine ⟨j + 1, by omega, by omega, rfl, rfl, rfl, ?_, ?_, T⟩
          · rw [Hs.out]; congr 1
          · congr 1
    · go_wp2
      (try simp only [Exit.inBlock, Exit.then]); refine ret2_of rfl rfl rfl rfl ?_
      exact ⟨by
        have : j = 4 := by omega
        rw [← HV.out, this, ← Hl.out, List.take_length], T.below⟩

theorem ParseUint_calls (s : List UInt8) (hl : s.length = 4) (h : s.all (hexL.contains ·) = true) (w0 : World) :
    Calls Tryd.prog 31 #[str s, .int .i64 16, .int .i64 32] w0 fun e w' => e = .returned (.tuple #[.int .u64 (hexV s), .nilIface]) ∧ Below w0.heap.size w0 w' := by
  have T := Tr.start (St.nil (w := w0) (H := fun _ => none) (fun _ _ _ h => by cases h))
  have Ha := hid h; have Hl := hid hl; clear h hl
  go_enter Tryd.func31, Tryd.ntmps31
  go_wp2_with (first
    | (go_at_call 52; refine (ParseUintIn_calls _ Hl.out Ha.out _).mono ?_; rintro e w ⟨rfl, hb⟩; replace T := T.of_below hb; clear hb))
  (try simp only [Exit.inBlock, Exit.then]); refine ret2_of rfl rfl rfl rfl ?_
  exact ⟨rfl, T.below⟩
end Go.Proofs.YtjgnpaifdbanjaaDoor
