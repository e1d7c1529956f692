import Derived.Test.YtgklmecijeadlaaGreatDoorA12
set_option linter.unusedSimpArgs false
set_option linter.unusedVariables false
set_option linter.unusedSectionVars false
namespace Go.Proofs.YtgklmecijeadlaaGreatDoor.Ab

/-! ### conversions -/
theorem bytesOf_ok {E : Env} : ∀ {c : List AV} {b : List UInt8} {cs : List Value}, bytesOf c = some b → c.length = cs.length → (∀ (i : Nat) (a : AV), c[i]? = some a → Rel E a (cs.getD i undef)) → cs = b.map fun x => .int .u8 (x.toNat : Int)
  | [], b, cs, h, hl, _ => by
    cases h
    cases cs with
    | nil => rfl
    | cons => simp at hl
  | a :: c, b, [], h, hl, _ => by simp at hl
  | a :: c, b, v :: cs, h, hl, hr => by
    cases a <;> try (simp [bytesOf] at h; done)
    rename_i k n
    cases k <;> try (simp [bytesOf] at h; done)
    rw [bytesOf] at h
    split at h
    · rename_i hn
      cases hb : bytesOf c with
      | none => rw [hb] at h; cases h
      | some r =>
        rw [hb] at h; cases h
        have h0 := hr 0 _ rfl
        simp only [List.getD_cons_zero] at h0
        cases h0
        have := bytesOf_ok (cs := cs) hb (by simpa using hl) (fun i a hi => by simpa using hr (i + 1) a (by simpa using hi))
        rw [this, List.map_cons]
        congr 2
        have : n.toNat < 256 := by omega
        simp [Nat.mod_eq_of_lt this]
        omega
    · cases h

theorem push_all : ∀ (l : List UInt8) (s : ByteArray), (l.map fun x => Value.int .u8 (x.toNat : Int)).foldl (fun (s : ByteArray) (v : Value) => match v with | .int .u8 n => s.push (UInt8.ofNat n.toNat) | _ => s) s = ⟨(s.data.toList ++ l).toArray⟩
  | [], s => by simp [str_eq]
  | b :: l, s => by
    rw [List.map_cons, List.foldl_cons, push_all l]
    simp [ByteArray.push]

theorem run_bytesToString {P : Program} {w : World} {a : Addr} {n cap : Nat} {l : List UInt8} (h : (loadCells a n).run P w = .ok (l.map fun x => Value.int .u8 (x.toNat : Int)).toArray w) :
    (Conv.bytesToString (.slice (some a) n cap)).run P w = .ok (.string ⟨l.toArray⟩) w := by
  unfold Conv.bytesToString
  simp only [Sem.run_bind, h, Result.andThen_ok]
  have key : ∀ (f : Value → ByteArray → Sem (ForInStep ByteArray)) (l : List UInt8) (s : ByteArray), (∀ (b : UInt8) s, f (.int .u8 (b.toNat : Int)) s = pure (ForInStep.yield (s.push b))) →
      (forIn (l.map fun x => Value.int .u8 (x.toNat : Int)).toArray s f).run P w = .ok ⟨(s.data.toList ++ l).toArray⟩ w := by
    intro f l
    induction l with
    | nil => intro s _; simp [str_eq]
    | cons b l ih =>
      intro s hf
      have ih' := ih (s.push b) hf
      simp only [List.map_cons, List.forIn_toArray, List.forIn_cons] at ih' ⊢
      rw [hf]
      simp only [Sem.run_bind, Sem.run_pure, Result.andThen_ok]
      rw [ih']
      simp [ByteArray.push]
  refine Eq.trans (congrArg (fun r => Result.andThen r _) (key _ l ByteArray.empty ?_)) ?_
  · intro b s; simp
  · simp

section
variable {T : Tab} {P : Program} (hT : TabOk T P) {K : Nat → Prop} {W : World} {E : Env} {σ : St} {w : World} (S : Sim T K W E σ w)
include hT S

theorem convertA_ok {src dst : TypeId} {x r : AV} {v : Value} {σ' : Option St} (h : convertA T σ src dst x = some (r, σ')) (hr : Rel E x v) : Gives T K W E σ P w (convert src dst v) r σ' := by
  unfold convertA at h
  split at h
  · rename_i k0 k k1 n hs hd
    cases h; cases hr
    refine Gives.silent S (v := .int k (k.wrap n)) ?_ .int
    unfold convert
    simp only [Sem.run_bind, run_und hT hs, run_und hT hd, Result.andThen_ok]
    rfl
  · rename_i s hs hd
    cases h; cases hr
    refine Gives.silent S (v := .string ⟨s.toArray⟩) ?_ .str
    unfold convert
    simp only [Sem.run_bind, run_und hT hs, run_und hT hd, Result.andThen_ok]
    rfl
  · rename_i k0 k1 n hs hd
    cases h; cases hr
    refine Gives.silent S (v := .string (Utf8.encode n)) ?_ .str'
    unfold convert
    simp only [Sem.run_bind, run_und hT hs, run_und hT hd, Result.andThen_ok]
    rfl
  · rename_i e s hs hd
    split at h
    · rename_i he he1
      cases h; cases hr
      obtain ⟨q, hq⟩ : ∃ q, q = (Question.appendCap s.length 0 e).cut (w.tape w.drawn (.appendCap s.length 0 e)) := ⟨_, rfl⟩
      have hqge : s.length ≤ q := by rw [hq]; simp only [Question.cut]; omega
      let w1 : World := { w with drawn := w.drawn + 1 }
      have hsize : (⟨s.toArray⟩ : ByteArray).size = s.length := by simp [ByteArray.size]
      have hch : (choose (.appendCap s.length 0 e)).run P w = .ok q w1 := by rw [run_choose, hq]; rfl
      let cs : Array Value := (s.toArray.map fun b => Value.int .u8 (b.toNat : Int)) ++ Array.replicate (q - s.length) (.int .u8 0)
      have hcs : cs.size = q := by simp [cs]; omega
      have hgd : ∀ i, i < s.length → gd cs i = .int .u8 ((s.getD i 0).toNat : Int) := by
        intro i hi
        apply gd_of
        simp only [cs]
        rw [Array.getElem?_append_left (by simp; exact hi)]
        simp [hi]
      have hrun : (convert src dst (.string ⟨s.toArray⟩)).run P w = .ok (.slice (some ⟨w.heap.size, 0, none⟩) s.length q) (w1.alloc (.cells cs e (q, q + 1))) := by
        unfold convert
        simp only [Sem.run_bind, run_und hT hs, run_und hT hd, run_und hT he, Result.andThen_ok]
        simp only [Conv.stringToBytes, hsize, Sem.run_bind, hch, Result.andThen_ok, newRow, run_newObj, Sem.run_pure]
        have hm : (markStringish ⟨w1.heap.size, 0, none⟩).run P { heap := w1.heap.push (.cells cs e), tape := w1.tape, drawn := w1.drawn, os := w1.os, output := w1.output } = .ok () (w1.alloc (.cells cs e (q, q + 1))) := by
          unfold markStringish
          simp only [Sem.run_bind, run_shape, Result.andThen_ok]
          have : World.shape? { heap := w1.heap.push (.cells cs e), tape := w1.tape, drawn := w1.drawn, os := w1.os, output := w1.output } w1.heap.size = some (e, cs.size) := by simp [World.shape?]
          rw [this]
          simp only [run_freeze, hcs]
          congr 1
          simp only [World.freeze]
          rw [if_neg (by decide)]
          simp only [World.alloc]
          congr 1
          apply Array.ext_getElem?
          intro i
          rw [Array.getElem?_modify, Array.getElem?_push, Array.getElem?_push]
          split
          · subst_vars; simp
          · rename_i hne
            rw [if_neg (fun e => hne e.symm), if_neg (fun e => hne e.symm)]
        simp only [cs] at hm ⊢
        rw [hm]
        rfl
      have S1 : Sim T K W E σ w1 := S.same rfl rfl rfl rfl
      have hl : (toBytes s).length = s.length := by simp [toBytes]
      have hsz1 : T.size e = T.size e := rfl
      have := new_arr S1 (c := toBytes s) (te := e) (cs := cs) (cap := q) (fz := (q, q + 1)) (by rw [hl, hcs]; exact hqge) (fun sz h' => by rw [he1] at h'; cases h'; rw [hcs, hl]; omega) ?_ ?_ (m := 3) (fun h => (nomatch h)) (by decide) (by decide)
      · exact ⟨_, _, _, hrun, E.le_new _ _ _, this, .sown Nat.one_pos (rel_new S.next.symm) hqge⟩
      · intro i a hi
        obtain ⟨b, hb, rfl⟩ := toBytes_get hi
        have hlt : i < s.length := by
          rcases Nat.lt_or_ge i s.length with h' | h'
          · exact h'
          · rw [List.getElem?_eq_none h'] at hb; cases hb
        rw [hgd i hlt, List.getD_eq_getElem?_getD, hb]
        exact .int
      · intro i hi
        rw [hl] at hi
        rw [hgd i hi]; rfl
    · cases h
  · rename_i x _ _ _ e hs hd
    split at h
    · rename_i c n he hc
      cases hb : bytesOf c with
      | none => rw [hb] at h; cases h
      | some b =>
        rw [hb] at h
        simp only at h
        cases hbl : Nat.beq b.length n && isSl x with
        | false => rw [hbl] at h; cases h
        | true =>
          rw [hbl, cond_true] at h
          cases h
          rw [Bool.and_eq_true, nbeq_iff] at hbl
          obtain ⟨hbn, hsl⟩ := hbl
          obtain ⟨base, cap, rfl, _⟩ := slice_of S hsl hc hr
          have hcl : c.length = b.length := by
            have : ∀ {c : List AV} {b : List UInt8}, bytesOf c = some b → c.length = b.length := by
              intro c
              induction c with
              | nil => intro b h; cases h; rfl
              | cons a c ih =>
                intro b h
                cases a <;> try (simp [bytesOf] at h; done)
                rename_i k m
                cases k <;> try (simp [bytesOf] at h; done)
                rw [bytesOf] at h
                split at h
                · cases hb : bytesOf c with
                  | none => rw [hb] at h; cases h
                  | some r => rw [hb] at h; cases h; simp [ih hb]
                · cases h
            exact this hb
          have H := holds hT S hc hr (sz := 1) (by rw [Nat.mul_one, hcl, hbn])
          obtain ⟨ds, hds, hdr⟩ := H.cells n (Nat.le_refl n)
          rw [Nat.mul_one, List.take_of_length_le (by omega)] at hdr
          have hval := bytesOf_ok (E := E) (cs := ds.toList) hb (by simpa using hdr.rel.len) (fun i a hi => by rw [gd_toList]; exact hdr.rel.at_ i a hi)
          refine Gives.silent S (v := .string ⟨b.toArray⟩) ?_ .str
          have hds0 := hds w rfl
          unfold convert
          simp only [Sem.run_bind, run_und hT hs, run_und hT hd, Result.andThen_ok]
          cases base with
          | none =>
            simp only [Builtin.firstCells, Sem.run_pure, Result.ok.injEq, and_true] at hds0
            subst hds0
            have : b = [] := by simpa using hval
            subst this
            simp only [Sem.run_bind, run_und hT he, Result.andThen_ok]
            rfl
          | some a =>
            have hde : ds = (b.map fun x => Value.int .u8 (x.toNat : Int)).toArray := by apply Array.ext'; simpa using hval
            rw [hde] at hds0
            simp only [Builtin.firstCells, Nat.mul_one] at hds0
            have hbt := run_bytesToString (cap := cap) hds0
            simp only [Sem.run_bind, run_und hT he, Result.andThen_ok]
            exact hbt
    · cases h
  · rename_i x _ _ e e' hs hd
    split at h
    · rename_i s g len he
      cases hsd : Nat.beq src dst with
      | false => rw [hsd] at h; cases h
      | true =>
        rw [hsd, cond_true] at h
        have hsd' := nbeq_iff.1 hsd
        subst hsd'
        rw [hs] at hd
        cases hd
        split at h
        · rename_i k c te hg
          rw [nbeq] at h
          by_cases hkg : k = g
          · subst hkg
            rw [decide_eq_true rfl, cond_true] at h
            cases h
            obtain ⟨b, cap, cs, fz, ha, hK, hc⟩ := S.arr_at hg
            obtain ⟨rfl, hlc⟩ := rel_sown ha hr
            obtain ⟨lo, hi⟩ := fz
            let fz' : Nat × Nat := if lo == hi then (cs.size, cs.size + 1) else (min lo cs.size, max hi (cs.size + 1))
            have hrun : (convert src src (.slice (some ⟨b, 0, none⟩) len cap)).run P w = .ok (.slice (some ⟨b, 0, none⟩) len cap) (setBlk w b (.cells cs te fz')) := by
              unfold convert
              simp only [Sem.run_bind, run_und hT hs, Result.andThen_ok]
              simp only [BEq.rfl, run_und hT he, Sem.run_bind, Result.andThen_ok]
              have hm : (markStringish ⟨b, 0, none⟩).run P w = .ok () (setBlk w b (.cells cs te fz')) := by
                unfold markStringish
                simp only [Sem.run_bind, run_shape, Result.andThen_ok, shape_of hc.heap, run_freeze]
                congr 1
                simp only [World.freeze]
                rw [if_neg (by decide)]
                simp only [setBlk]
                congr 1
                apply Array.ext_getElem?
                intro i
                rw [Array.getElem?_modify, Array.getElem?_setIfInBounds]
                by_cases e : b = i
                · subst e
                  rw [if_pos rfl, if_pos rfl, hc.heap, if_pos (lt_of_some hc.heap)]
                  simp only [Option.map_some, fz']
                · rw [if_neg e, if_neg e]
              rw [hm]
              rfl
            refine ⟨_, _, E, hrun, Env.le.refl E, S.put hg ha rfl rfl rfl setBlk_size (fun j hj => setBlk_ne hj) (.inl (hc.own (by decide))) ⟨rfl, cs, fz', hc.pos, setBlk_self (lt_of_some hc.heap), hc.le, hc.room, hc.rel, hc.flat, fun e => (nomatch e), fun e => (nomatch e), fun e => (nomatch e), fun _ => hc.own (by decide)⟩, .sown hc.pos ha hlc⟩
          · rw [decide_eq_false hkg, cond_false] at h; cases h
        · cases h
    · cases h
  · rename_i t s hs hd
    split at h
    · rename_i c0 cl te m n hg hsz
      cases h
      obtain ⟨b, cs, ha, hK, hc⟩ := S.cells_at hg
      have := rel_ptr S hg ha hr
      subst this
      refine Gives.silent S (v := .pointer (some ⟨b, 0, none⟩)) ?_ (.ptr ha)
      have hcs : 0 < cs.size := by rw [← hc.len]; simp
      have hseen : (Conv.seenAt ⟨b, 0, none⟩).run P w = .ok ⟨b, 0, none⟩ w := by
        unfold Conv.seenAt viewAt
        simp [shape_of hc.heap]
      unfold convert
      simp only [Sem.run_bind, run_und hT hs, run_und hT hd, Result.andThen_ok]
      unfold Conv.unsafePointer
      simp only [Sem.run_bind, run_und hT hs, run_und hT hd, Result.andThen_ok, hseen, run_size hT hsz]
      have hcells : (Go.cellsIn b).run P w = .ok (some cs.size) w := by
        unfold Go.cellsIn
        simp [shape_of hc.heap]
      rw [hcells]
      simp only [Result.andThen_ok]
      have h0 : ¬ (cs.size = 0) := by omega
      have h1 : decide (0 ≥ cs.size) = false := decide_eq_false (by omega)
      simp [h0, h1]
    · cases h
  · rename_i u s hs hd
    split at h
    · rename_i c te m n hg hsz
      cases hb : Nat.beq te u && Nat.beq c.length (n + 1) with
      | false => rw [hb] at h; cases h
      | true =>
        rw [hb, cond_true] at h
        cases h
        rw [Bool.and_eq_true, nbeq_iff, nbeq_iff] at hb
        obtain ⟨rfl, hcl⟩ := hb
        obtain ⟨b, cs, ha, hK, hc⟩ := S.cells_at hg
        have := rel_ptr S hg ha hr
        subst this
        refine Gives.silent S (v := .pointer (some ⟨b, 0, none⟩)) ?_ (.ptr ha)
        have hcs : cs.size = n + 1 := by rw [← hc.len, hcl]
        have hseen : (Conv.seenAt ⟨b, 0, none⟩).run P w = .ok ⟨b, 0, none⟩ w := by
          unfold Conv.seenAt viewAt
          simp [shape_of hc.heap]
        have hco : P.cellsOf te = n + 1 := by
          obtain ⟨i, hi, hi2⟩ := hT.size te _ hsz
          simp [Program.cellsOf, hi, hi2]
        have hlies : liesAt P P.depth te (cs.size / P.cellsOf te) 0 te 1 = true := by
          rw [hco, hcs, Nat.div_self (Nat.succ_pos n)]
          have hd : ∃ d, P.depth = d + 1 := ⟨2 * (P.types.size + Made.depth) + 1, rfl⟩
          obtain ⟨d, hd⟩ := hd
          have hrow : rowAt P (sameLayout P P.depth · te) P.depth te 1 0 1 = true := by
            rw [hd]
            simp only [rowAt, hco, sameLayout]
            simp
          rw [hd, liesAt, hrow]
          rfl
        have hva : (variablesAt ⟨b, 0, none⟩ te 1).run P w = .ok true w := by
          unfold variablesAt
          simp [shape_of hc.heap, hlies]
        unfold convert
        simp only [Sem.run_bind, run_und hT hs, run_und hT hd, Result.andThen_ok]
        unfold Conv.unsafePointer
        simp only [Sem.run_bind, run_und hT hs, run_und hT hd, Result.andThen_ok, hseen, run_size hT hsz, hva]
        simp
    · cases h
  · cases h
end
end Go.Proofs.YtgklmecijeadlaaGreatDoor.Ab
