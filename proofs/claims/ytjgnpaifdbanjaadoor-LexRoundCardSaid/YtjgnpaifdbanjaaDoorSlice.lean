import Derived.Test.YtjgnpaifdbanjaaDoorFacts
set_option linter.unusedSimpArgs false
set_option linter.unusedVariables false
namespace Go.Proofs.YtjgnpaifdbanjaaDoor
open Go.RowKit

/-! slices of the call's own, that grow -/
/-- v is a slice over a block of the call's own (E), or nil; n elements of sz cells each, which are cs -/
def OwnSl (te sz : Nat) (v : Value) (E : Own) (n : Nat) (cs : List Value) : Prop :=
  (v = .slice none 0 0 ∧ E = [] ∧ n = 0 ∧ cs = []) ∨
  ∃ b c cap, v = .slice (some ⟨b, 0, none⟩) n cap ∧ E = [(b, .cells c te (0, 0))] ∧ c.size = cap * sz ∧ n ≤ cap ∧ (0 < cap ∧ cap ≤ 9223372036854775807) ∧ cs.length = n * sz ∧ c.toList.take (n * sz) = cs ∧ ∀ v, v ∈ cs → flat v = true

theorem OwnSl.nil (te sz : Nat) : OwnSl te sz (.slice none 0 0) [] 0 [] := .inl ⟨rfl, rfl, rfl, rfl⟩
theorem OwnSl.len {te sz v E n cs} (h : OwnSl te sz v E n cs) : cs.length = n * sz := by
  rcases h with ⟨_, _, rfl, rfl⟩ | ⟨_, _, _, _, _, _, _, _, h, _, _⟩
  · simp
  · exact h

section
variable {P : Program} {w : World}

/-- what is appended: m elements that are ns -/
structure Src (P : Program) (w : World) (x : Value) (sz m : Nat) (ns : List Value) : Prop where
  len : ∀ w', (Builtin.lenOf x).run P w' = .ok m w'
  run : ∀ w', w'.heap = w.heap → (Builtin.firstCells sz m x).run P w' = .ok ns.toArray w'
  size : ns.length = m * sz
  flat : ∀ v, v ∈ ns → flat v = true

theorem Src.slice {b off m cap c te fz sz} {ns : List Value} (h : w.heap[b]? = some (.cells c te fz)) (hn : ns.length = m * sz) (hv : ∀ j, j < m * sz → c[off + j]? = ns[j]?)
    (hf : ∀ v, v ∈ ns → Go.Proofs.YtjgnpaifdbanjaaDoor.flat v = true) : Src P w (.slice (some ⟨b, off, none⟩) m cap) sz m ns := by
  refine ⟨fun w' => rfl, fun w' hw => ?_, hn, hf⟩
  have h' : w'.heap[b]? = some (.cells c te fz) := by rw [hw]; exact h
  have := run_loads_at (P := P) (off := off) (vs := ns.toArray) h' (fun j hj => by
    rw [List.size_toArray, hn] at hj
    rw [hv j hj]; simp)
  rw [List.size_toArray, hn] at this
  exact this

theorem Src.nil {sz cap : Nat} : Src P w (.slice none 0 cap) sz 0 [] :=
  ⟨fun _ => rfl, fun _ _ => rfl, by simp, fun _ h => nomatch h⟩

theorem Src.empty {sz cap : Nat} {a : Option Addr} : Src P w (.slice a 0 cap) sz 0 [] :=
  ⟨fun _ => rfl, fun w' _ => by
    cases a with
    | none => rfl
    | some a =>
      show (loadCells a (0 * sz)).run P w' = _
      rw [Nat.zero_mul]; rfl, by simp, fun _ h => nomatch h⟩

def byteV (c : UInt8) : Value := .int .u8 c.toNat
theorem Src.string (l : List UInt8) : Src P w (.string ⟨l.toArray⟩) 1 l.length (l.map byteV) := by
  refine ⟨fun w' => by show Result.ok _ _ = _; simp [ByteArray.size], fun w' _ => ?_, by simp, fun v hv => ?_⟩
  · show Result.ok _ _ = _
    congr 1
    have : ((⟨l.toArray⟩ : ByteArray).extract 0 l.length).data = l.toArray := by simp [ByteArray.data_extract]
    rw [this]; simp [byteV]
  · obtain ⟨c, _, rfl⟩ := List.mem_map.1 hv; rfl

theorem growBy_le (n : Nat) : ∀ r c, Builtin.growBy n r c + 256 ≤ 2 ^ r * (c + 256)
  | 0, c => by simp [Builtin.growBy]
  | r + 1, c => by
    unfold Builtin.growBy
    split
    · have : 1 ≤ 2 ^ (r + 1) := Nat.one_le_two_pow
      exact Nat.le_mul_of_pos_left _ this
    · refine Nat.le_trans (growBy_le n r _) ?_
      rw [Nat.pow_succ, Nat.mul_assoc]
      exact Nat.mul_le_mul_left _ (by omega)

theorem nextslicecap_le (need cap : Nat) (h : cap < need) (hn : need ≤ 10000000) : Builtin.nextslicecap need cap ≤ 200000000 := by
  unfold Builtin.nextslicecap
  split
  · omega
  · split
    · omega
    · have := growBy_le need 4 cap; omega

theorem List.take_set_of_le_aux (l : List Value) (off : Nat) (v : Value) (h : off < l.length) : (l.set off v).take (off + 1) = l.take off ++ [v] := by
  rw [List.take_succ_eq_append_getElem (by simpa using h), List.take_set, List.set_eq_of_length_le (by simp; omega)]
  simp

theorem puts_toList (vs : List Value) : ∀ (c : Array Value) (off : Nat), off + vs.length ≤ c.size → (puts c off vs).toList = c.toList.take off ++ vs ++ c.toList.drop (off + vs.length) := by
  induction vs with
  | nil => intro c off h; simp [puts]
  | cons v vs ih =>
    intro c off h
    simp only [List.length_cons] at h
    rw [puts, ih _ _ (by simp; omega)]
    have hlt : off < c.toList.length := by simp; omega
    simp only [Array.toList_setIfInBounds, List.length_cons]
    rw [List.take_set_of_le_aux c.toList off v hlt]
    simp [List.drop_set, Nat.add_assoc, Nat.add_comm 1]
theorem puts_take (vs : List Value) (c : Array Value) (off : Nat) (h : off + vs.length ≤ c.size) : (puts c off vs).toList.take (off + vs.length) = c.toList.take off ++ vs := by
  have hl : (c.toList.take off ++ vs).length = off + vs.length := by simp; omega
  rw [puts_toList vs c off h, List.take_append_of_le_length (by omega), List.take_of_length_le (by omega)]

/-- the run of append onto a slice of the call's own -/
theorem run_append {te sz bytes : Nat} {sT xT : TypeId} {xTd : TypeDesc} {v x : Value} {E R : Own} {n m : Nat} {cs ns : List Value} {w0 : World} {H0 H : Hp} {L0 : Own} {ty : TypeId} {z : Value}
    (hO : OwnSl te sz v E n cs) (T : Tr w0 H0 L0 w H (E ++ R)) (hS : Src P w x sz m ns) (hb : n + m ≤ 10000000)
    (hu : P.underlying sT = some (.slice te)) (hx : P.underlying xT = some xTd) (hxi : ∀ k, xTd ≠ .int k) (hs : ∀ w, (sizeOf te).run P w = .ok sz w)
    (hi : (P.info? te).map (fun i => (i.bytes, i.zero)) = some (bytes, some z)) (hbytes : 1 ≤ bytes ∧ bytes ≤ 1000) (hzf : z.cells.size = sz) :
    ∃ w' v' E', (Builtin.append_ #[sT, xT] ty #[v, x]).run P w = .ok v' w' ∧ OwnSl te sz v' E' (n + m) (cs ++ ns) ∧ Tr w0 H0 L0 w' H (E' ++ R) := by
  obtain ⟨i, hi, hib, hiz⟩ : ∃ i, P.info? te = some i ∧ i.bytes = bytes ∧ i.zero = some z := by
    cases h : P.info? te with
    | none => rw [h] at hi; cases hi
    | some i =>
      rw [h] at hi
      simp only [Option.map_some, Option.some.injEq, Prod.mk.injEq] at hi
      exact ⟨i, rfl, hi.1, hi.2⟩
  have hut : ∀ w, (underlying sT).run P w = .ok (.slice te) w := fun w => by
    simp only [underlying, program, Sem.run_bind, Sem.run, hu, Result.andThen_ok]; rfl
  have hux : ∀ w, (underlying xT).run P w = .ok xTd w := fun w => by
    simp only [underlying, program, Sem.run_bind, Sem.run, hx, Result.andThen_ok]; rfl
  have hti : ∀ w, (typeInfo te).run P w = .ok i w := fun w => by
    simp only [typeInfo, program, Sem.run_bind, Sem.run, hi, Result.andThen_ok]; rfl
  have hm : (match xTd with | .int _ => true | _ => false) = false := by
    cases xTd <;> first | rfl | exact absurd rfl (hxi _)
  -- the new row
  have hfc : ∀ v, v ∈ cs → flat v = true := by
    rcases hO with ⟨_, _, _, rfl⟩ | ⟨_, _, _, _, _, _, _, _, _, _, h⟩
    · exact fun _ h => nomatch h
    · exact h
  have hfn : ∀ v, v ∈ cs ++ ns → flat v = true := fun v hv => (List.mem_append.1 hv).elim (hfc v) (hS.flat v)
  have grow : ∀ (base : Option Addr) (cap : Nat) (old : List Value), v = .slice base n cap → cap < n + m → old = cs →
      (∀ w', w'.heap = w.heap → (Builtin.firstCells sz n v).run P w' = .ok old.toArray w') →
      ∃ w' v' E', (Builtin.append_ #[sT, xT] ty #[v, x]).run P w = .ok v' w' ∧ OwnSl te sz v' E' (n + m) (cs ++ ns) ∧ Tr w0 H0 L0 w' H (E' ++ R) := by
    intro base cap old hv hlt ho hold
    subst hv; subst ho
    have hnx := nextslicecap_le (n + m) cap hlt hb
    have hnx2 : ¬ (Builtin.nextslicecap (n + m) cap * i.bytes > 2 ^ 48) := by
      rw [hib]
      have : Builtin.nextslicecap (n + m) cap * bytes ≤ 200000000 * 1000 := Nat.mul_le_mul hnx hbytes.2
      omega
    let nc := (Question.appendCap (n + m) cap te).cut (w.tape w.drawn (.appendCap (n + m) cap te))
    have hnc : n + m ≤ nc := by show n + m ≤ (n + m) + _ % _; omega
    have hnc2 : nc ≤ 9223372036854775807 := by show (n + m) + _ % (2 ^ 63 - (n + m)) ≤ _; have := Nat.mod_lt (w.tape w.drawn (.appendCap (n + m) cap te)) (show 0 < 2 ^ 63 - (n + m) by omega); omega
    have hch : (choose (.appendCap (n + m) cap te)).run P w = .ok nc w.drew := rfl
    have hroom : ∀ b w', (askRoom b).run P w' = .ok () w' := fun b w' => by unfold askRoom; split <;> rfl
    have hz : ∀ w', (zeroValue te).run P w' = .ok z w' := fun w' => by
      simp only [zeroValue, Sem.run_bind, hti, Result.andThen_ok, hiz]; rfl
    have hzc : (Builtin.zeroCells z.cells (nc - (n + m))).size = (nc - (n + m)) * sz := by simp [Builtin.zeroCells, hzf]
    refine ⟨w.drew.alloc (.cells (old.toArray ++ ns.toArray ++ Builtin.zeroCells z.cells (nc - (n + m))) te), .slice (some ⟨w.heap.size, 0, none⟩) (n + m) nc,
      [(w.heap.size, .cells (old.toArray ++ ns.toArray ++ Builtin.zeroCells z.cells (nc - (n + m))) te (0, 0))], ?_, ?_, ?_⟩
    · have hmax : IntKind.i64.max = 9223372036854775807 := rfl
      have hov : ¬ (((n + m : Nat) : Int) > IntKind.i64.max ∧ (False ∨ i.bytes = 0)) := by rw [hib]; omega
      simp only [Builtin.append_, List.getElem?_toArray, List.getElem?_cons_zero, List.getElem?_cons_succ, Sem.run_bind, hut, hux, hs, hm, Result.andThen_ok, Sem.run_pure, Bool.false_eq_true, if_false,
        hS.len, Sem.run_ite, if_neg (Nat.not_le.2 hlt), hti, Bool.not_false, if_true, false_or, hib]
      rw [if_neg (by omega), if_neg (by rw [← hib]; exact hnx2)]
      simp only [hch, Result.andThen_ok, hroom, hold w.drew rfl, hS.run w.drew rfl, hz]
      rfl
    · refine .inr ⟨_, _, nc, rfl, rfl, ?_, hnc, ⟨by omega, hnc2⟩, ?_, ?_, hfn⟩
      · simp only [Array.size_append, List.size_toArray, hzc, hO.len, hS.size]
        rw [← Nat.add_mul, ← Nat.add_mul]; congr 1; omega
      · simp only [List.length_append, hO.len, hS.size, Nat.add_mul]
      · simp only [Array.toList_append]
        rw [List.take_append_of_le_length (by simp [hO.len, hS.size, Nat.add_mul]), List.take_of_length_le (by simp [hO.len, hS.size, Nat.add_mul])]
    · have T2 := (T.drew).alloc (.cells (old.toArray ++ ns.toArray ++ Builtin.zeroCells z.cells (nc - (n + m))) te)
      exact Tr.perm T2 (fun p hp => by
        simp only [List.singleton_append, List.mem_cons] at hp ⊢
        rcases hp with h | h
        · exact .inl h
        · exact .inr (List.mem_append_right _ h)) (by
        have := T2.nodup
        simp only [List.map_cons, List.map_append, List.nodup_cons, List.nodup_append, List.mem_append, not_or] at this ⊢
        simp only [List.map_nil, List.not_mem_nil, not_false_eq_true, List.nodup_nil, and_true, true_and]
        refine ⟨this.2.2.1, ?_⟩
        intro a ha b hb
        simp only [List.mem_singleton] at ha
        subst ha
        intro e; subst e; exact this.1.2 hb)
  rcases hO with ⟨hv, hE, hn, hc⟩ | ⟨b, c, cap, hv, hE, hcs, hle, hcp, hlen, htake, hfl⟩
  · by_cases hm0 : m = 0
    · subst hm0
      have hns : ns = [] := by have := hS.size; rw [Nat.zero_mul] at this; exact List.length_eq_zero_iff.1 this
      refine ⟨w, .slice none 0 0, [], ?_, .inl ⟨rfl, rfl, by omega, by rw [hc, hns]; rfl⟩, by rw [hE] at T; exact T⟩
      subst hv
      simp only [Builtin.append_, List.getElem?_toArray, List.getElem?_cons_zero, List.getElem?_cons_succ, Sem.run_bind, hut, hux, hs, hm, Result.andThen_ok, Sem.run_pure, Bool.false_eq_true, if_false,
        hS.len, Sem.run_ite, Bool.not_false, if_true, Nat.add_zero, Nat.le_refl, hS.run w rfl]
    · exact grow none 0 [] (by rw [hv, hn]) (by omega) hc.symm (fun w' _ => by rw [hv, hn]; rfl)
  · by_cases hfit : n + m ≤ cap
    · have h1 := T.own (b, .cells c te (0, 0)) (by rw [hE]; simp)
      rw [hE] at T
      obtain ⟨w', hr, T'⟩ := run_stores_at (P := P) (off := n * sz) (te := te) (b := b) (c := c) 0 ns 0 T rfl (by rw [hS.size, hcs, Nat.add_zero, ← Nat.add_mul]; exact Nat.mul_le_mul_right _ hfit) hS.flat
      refine ⟨w', .slice (some ⟨b, 0, none⟩) (n + m) cap, [(b, .cells (puts c (n * sz) ns) te (0, 0))], ?_, ?_, T'⟩
      · subst hv
        simp only [Builtin.append_, List.getElem?_toArray, List.getElem?_cons_zero, List.getElem?_cons_succ, Sem.run_bind, hut, hux, hs, hm, Result.andThen_ok, Sem.run_pure, Bool.false_eq_true, if_false,
          hS.len, Sem.run_ite, Bool.not_false, if_true, if_pos hfit, hS.run w rfl, Addr.add_mk, Nat.zero_add, hr]
      · refine .inr ⟨b, puts c (n * sz) ns, cap, rfl, rfl, by rw [puts_size, hcs], hfit, hcp, by simp only [List.length_append, hlen, hS.size, Nat.add_mul], ?_, hfn⟩
        rw [Nat.add_mul, ← hS.size, puts_take _ _ _ (by rw [hS.size, hcs, ← Nat.add_mul]; exact Nat.mul_le_mul_right _ hfit), htake]
    · exact grow (some ⟨b, 0, none⟩) cap cs hv (by omega) rfl (fun w' hw => by
        have h1 := T.own (b, .cells c te (0, 0)) (by rw [hE]; simp)
        rw [hv]
        refine (Src.slice (P := P) (w := w) (m := n) (cap := cap) (off := 0) (sz := sz) (ns := cs) h1 hlen (fun j hj => ?_) ?_).run w' hw
        · rw [Nat.zero_add, ← htake, List.getElem?_take, if_pos hj]; simp
        · exact hfc)

theorem puts_all (vs : List Value) (c : Array Value) (h : c.size = vs.length) : puts c 0 vs = vs.toArray := by
  apply Array.toList_inj.1
  rw [puts_toList vs c 0 (by omega), List.take_zero, List.nil_append, List.drop_of_length_le (by simp; omega), List.append_nil]

theorem foldl_puts (vs : List Value) : ∀ (c : Array Value) (off k : Nat),
    (vs.zipIdx k).foldl (fun cs (p : Value × Nat) => cs.setIfInBounds (off + p.2) p.1) c = puts c (off + k) vs := by
  induction vs with
  | nil => intro c off k; rfl
  | cons v vs ih => intro c off k; simp only [List.zipIdx_cons, List.foldl_cons, puts]; rw [ih]; rfl

theorem fill1 {sz : Nat} {v : Value} {c : Array Value} (h : v.cells.size = sz) (hc : c.size = sz) :
    Instr.fill (fun i => some (i * sz, sz)) c [(0, v)] = some v.cells := by
  simp only [Instr.fill, Nat.zero_mul, Nat.zero_add]
  rw [if_neg (by rw [h, hc]; simp)]
  congr 1
  have e := foldl_puts v.cells.toList c 0 0
  rw [← Array.foldl_toList]
  have hz : (v.cells.zipIdx).toList = v.cells.toList.zipIdx := by simp
  rw [hz]
  simp only [Nat.zero_add] at e
  rw [e, puts_all _ _ (by simp [h, hc])]

theorem run_buildSlice1 {t te sz : Nat} {v z : Value} (hu : P.underlying t = some (.slice te)) (hs : ∀ w, (sizeOf te).run P w = .ok sz w) (hz : ∀ w, (zeroValue te).run P w = .ok z w)
    (hv : v.cells.size = sz) (h16 : sz ≤ 16) :
    (Instr.buildSlice t 1 #[(0, v)]).run P w = .ok (.slice (some ⟨w.heap.size, 0, none⟩) 1 1) (w.alloc (.cells v.cells te)) := by
  have hut : ∀ w, (underlying t).run P w = .ok (.slice te) w := fun w => by
    simp only [underlying, program, Sem.run_bind, Sem.run, hu, Result.andThen_ok]; rfl
  simp only [Instr.buildSlice, Sem.run_bind, hut, hs, Result.andThen_ok, Nat.one_mul]
  rw [if_neg (by omega)]
  by_cases h0 : sz = 0
  · subst h0
    simp only [if_true, Sem.run_bind, Sem.run_pure, Result.andThen_ok]
    rw [fill1 hv (by simp)]
    rfl
  · rw [if_neg h0]
    simp only [Sem.run_bind, hz, Sem.run_pure, Result.andThen_ok]
    rw [fill1 hv (by simp)]
    rfl

variable {a : Act} {Q : Exit → Act → World → Prop} {ops : Array Oper} {rest : List Oper}
  {w0 : World} {H0 H : Hp} {L0 L : Own} {dst : Option Tmp} {ty : TypeId} {pos : String} {after : Array Edge} {guard : Option (Nat × Bool)}

theorem is_buildSlice {t : TypeId} {n : Nat} {ps : Array (Nat × Operand)} (k : wpList P ops Q (Oper.mk dst (.buildSlice t n ps) ty pos after guard :: rest) a w) : wpList P ops Q (Oper.mk dst (.buildSlice t n ps) ty pos after guard :: rest) a w := k
theorem is_append {xs : Array Operand} {ts : Array TypeId} (k : wpList P ops Q (Oper.mk dst (.call { callee := .builtin .append, args := xs, argTypes := ts }) ty pos after guard :: rest) a w) :
    wpList P ops Q (Oper.mk dst (.call { callee := .builtin .append, args := xs, argTypes := ts }) ty pos after guard :: rest) a w := k

theorem op_buildSlice1 (hw : ∀ op, Region.wanted (Oper.mk dst op ty pos after guard) (yielded ops a.tmps) = true) {t te sz : Nat} {x : Operand} {v z : Value} (hx : evalO a x = some v)
    (hu : P.underlying t = some (.slice te)) (hs : ∀ w, (sizeOf te).run P w = .ok sz w) (hz : ∀ w, (zeroValue te).run P w = .ok z w) (hv : v.cells.size = sz) (h16 : Nat.ble sz 16 = true) (T : Tr w0 H0 L0 w H L)
    (k : ∀ w' b, Tr w0 H0 L0 w' H ((b, .cells v.cells te (0, 0)) :: L) → wpList P ops Q rest (a.put dst (.slice (some ⟨b, 0, none⟩) 1 1)) w') :
    wpList P ops Q (Oper.mk dst (.buildSlice t 1 #[(0, x)]) ty pos after guard :: rest) a w := by
  refine wp_value (hw _) (v := .slice (some ⟨w.heap.size, 0, none⟩) 1 1) (w' := w.alloc (.cells v.cells te)) ?_ (k _ _ (T.alloc _))
  simp only [execOp]
  refine run_v ?_
  have : (#[(0, x)] : Array (Nat × Operand)).map (fun (i, x) => (i, a.eval x)) = #[(0, v)] := by simp [eval_of hx]
  rw [this]
  exact run_buildSlice1 hu hs hz hv (Nat.le_of_ble_eq_true h16)

/-- append onto a slice of the call's own, of what Src tells -/
theorem op_append_src (hw : ∀ op, Region.wanted (Oper.mk dst op ty pos after guard) (yielded ops a.tmps) = true) {te sz bytes sT xT : Nat} {xTd : TypeDesc} {s x : Operand} {v vx z : Value} {E R : Own} {n m : Nat} {cs ns : List Value}
    (hO : OwnSl te sz v E n cs) (T : Tr w0 H0 L0 w H (E ++ R)) (hS : Src P w vx sz m ns) (h1 : evalO a s = some v) (h2 : evalO a x = some vx) (hb : n + m ≤ 10000000)
    (hu : P.underlying sT = some (.slice te)) (hx : P.underlying xT = some xTd) (hxi : ∀ k, xTd ≠ .int k) (hs : ∀ w, (sizeOf te).run P w = .ok sz w)
    (hi : (P.info? te).map (fun i => (i.bytes, i.zero)) = some (bytes, some z)) (hbytes : (Nat.ble 1 bytes && Nat.ble bytes 1000) = true) (hzf : z.cells.size = sz)
    (k : ∀ w' v' E', OwnSl te sz v' E' (n + m) (cs ++ ns) → Tr w0 H0 L0 w' H (E' ++ R) → wpList P ops Q rest (a.put dst v') w') :
    wpList P ops Q (Oper.mk dst (.call { callee := .builtin .append, args := #[s, x], argTypes := #[sT, xT] }) ty pos after guard :: rest) a w := by
  rw [Bool.and_eq_true] at hbytes
  obtain ⟨w', v', E', hr, hO', T'⟩ := run_append (ty := ty) hO T hS hb hu hx hxi hs hi ⟨Nat.le_of_ble_eq_true hbytes.1, Nat.le_of_ble_eq_true hbytes.2⟩ hzf
  refine wp_value (hw _) (v := v') (w' := w') ?_ (k w' v' E' hO' T')
  have : (#[s, x] : Array Operand).map a.eval = #[v, vx] := by simp [eval_of h1, eval_of h2]
  rw [BigFrame.execOp_builtin, this]
  exact run_v hr

/-- append of one element, laid in a block of its own that stands first -/
theorem op_append1 (hw : ∀ op, Region.wanted (Oper.mk dst op ty pos after guard) (yielded ops a.tmps) = true) {te te' sz bytes sT xT tb cap : Nat} {s x : Operand} {v z : Value} {E R : Own} {n m : Nat} {cs : List Value} {c : Array Value}
    (hO : OwnSl te sz v E n cs) (T : Tr w0 H0 L0 w H ((tb, .cells c te' (0, 0)) :: (E ++ R))) (h1 : evalO a s = some v) (h2 : evalO a x = some (.slice (some ⟨tb, 0, none⟩) m cap)) (hb : n + m ≤ 10000000)
    (hu : P.underlying sT = some (.slice te)) (hx : P.underlying xT = some (.slice te)) (hs : ∀ w, (sizeOf te).run P w = .ok sz w)
    (hi : (P.info? te).map (fun i => (i.bytes, i.zero)) = some (bytes, some z)) (hbytes : (Nat.ble 1 bytes && Nat.ble bytes 1000) = true) (hzf : z.cells.size = sz)
    (hc : Nat.beq c.size (m * sz) = true) (hf : c.toList.all flat = true)
    (k : ∀ w' v' E', OwnSl te sz v' E' (n + m) (cs ++ c.toList) → Tr w0 H0 L0 w' H (E' ++ R) → wpList P ops Q rest (a.put dst v') w') :
    wpList P ops Q (Oper.mk dst (.call { callee := .builtin .append, args := #[s, x], argTypes := #[sT, xT] }) ty pos after guard :: rest) a w := by
  have hcs : c.toList.length = m * sz := by rw [Array.length_toList]; exact Nat.eq_of_beq_eq_true hc
  have hS : Src P w (.slice (some ⟨tb, 0, none⟩) m cap) sz m c.toList :=
    Src.slice (T.own _ (List.mem_cons_self ..)) hcs (fun j _ => by rw [Nat.zero_add]; simp) (List.all_eq_true.1 hf)
  exact op_append_src hw hO T.drop hS h1 h2 hb hu hx (fun k h => by cases h) hs hi hbytes hzf k
end
end Go.Proofs.YtjgnpaifdbanjaaDoor
