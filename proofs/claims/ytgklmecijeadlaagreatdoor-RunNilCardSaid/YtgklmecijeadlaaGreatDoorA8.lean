import Derived.Test.YtgklmecijeadlaaGreatDoorA7
set_option linter.unusedSimpArgs false
set_option linter.unusedVariables false
set_option linter.unusedSectionVars false
namespace Go.Proofs.YtgklmecijeadlaaGreatDoor.Ab

/-! ### own blocks that turn -/
def Env.turn (E : Env) (s : Nat) (x : Nat × Nat × Nat) (hs : s < E.next) : Env := ⟨E.H, fun t => if t = s then some x else E.at_ t, E.next, fun t y h => by
  by_cases e : t = s
  · subst e; exact hs
  · rw [if_neg e] at h; exact E.lt t y h⟩

theorem Env.le_turn {E : Env} {s b cap g : Nat} {x : Nat × Nat × Nat} (ha : E.at_ s = some (b, cap, g)) (h0 : 0 < g) (hg : g < x.2.2) (hs : s < E.next) : E.le (E.turn s x hs) := by
  refine ⟨fun _ _ h => h, Nat.le_refl _, ?_, ?_⟩
  · intro t ht hn
    show (if _ then _ else _) = _
    rw [if_neg ?_]
    · exact hn
    · rintro rfl; rw [ha] at hn; cases hn
  · intro t b' cap' g' h
    by_cases e : t = s
    · subst e
      rw [ha] at h; cases h
      exact .inr (.inr ⟨x.1, x.2.1, x.2.2, by show (if _ then _ else _) = _; rw [if_pos rfl], h0, hg⟩)
    · exact .inr (.inl (by show (if _ then _ else _) = _; rw [if_neg e]; exact h))

theorem Sim.turn {T K W E σ w} (S : Sim T K W E σ w) {s b cap g b' cap' g' : Nat} {B C : Blk} {w' : World} (hs : σ.get s = some B) (ha : E.at_ s = some (b, cap, g)) (h0 : 0 < g) (hg : g < g') (hsn : s < E.next)
    (hos : w'.os = w.os) (htape : w'.tape = w.tape) (hout : w'.output = w.output) (hsz : w.heap.size ≤ w'.heap.size) (hoth : ∀ k, k < w.heap.size → k ≠ b → w'.heap[k]? = w.heap[k]?)
    (hb : b' = b ∨ b' = w.heap.size) (hH : E.H b = none) (hC : BlkRel T (E.turn s (b', cap', g') hsn) w' b' cap' g' C) : Sim T K W (E.turn s (b', cap', g') hsn) (σ.put s C) w' := by
  have hl := Env.le_turn (x := (b', cap', g')) ha h0 hg hsn
  obtain ⟨b2, c2, g2, ha2, hK, hbB⟩ := S.blk s B hs
  rw [ha] at ha2; cases ha2
  have hblt : ∀ t b1 c1 g1, E.at_ t = some (b1, c1, g1) → b1 < w.heap.size := fun t b1 c1 g1 h => by
    obtain ⟨D, hD⟩ := S.live t b1 c1 g1 h
    obtain ⟨b3, c3, g3, h3, _, h4⟩ := S.blk t D hD
    rw [h] at h3; cases h3
    exact h4.lt
  refine ⟨hos.trans S.os, htape.trans S.tape, hout.trans S.output, Nat.le_trans S.size hsz, ?_, S.kin, ?_, S.next, ?_, ?_, ?_, fun g row h => (S.glob g row h).mono hl, S.off⟩
  · intro k hk
    rw [hoth k (Nat.lt_of_lt_of_le (S.kin k hk) S.size) (fun e => hK (e ▸ hk))]; exact S.keep k hk
  · intro k c t hk
    obtain ⟨fz, h⟩ := S.inn k c t hk
    refine ⟨fz, ?_⟩
    rw [hoth k (lt_of_some h) ?_]
    · exact h
    · rintro rfl; change E.H _ = _ at hk; rw [hH] at hk; cases hk
  · intro t b1 c1 g1 ht
    rw [get_put hs]
    by_cases e : s = t
    · exact ⟨C, if_pos e⟩
    · rw [if_neg e]
      simp only [Env.turn] at ht
      rw [if_neg (fun h => e h.symm)] at ht
      exact S.live t b1 c1 g1 ht
  · intro t D hD
    rw [get_put hs] at hD
    by_cases e : s = t
    · rw [if_pos e] at hD; cases hD; subst e
      refine ⟨b', cap', g', by show (if _ then _ else _) = _; rw [if_pos rfl], ?_, hC⟩
      rcases hb with rfl | rfl
      · exact hK
      · intro h; have := S.kin _ h; have := S.size; omega
    · rw [if_neg e] at hD
      obtain ⟨b1, c1, g1, ht, hK1, h1⟩ := S.blk t D hD
      refine ⟨b1, c1, g1, by show (if _ then _ else _) = _; rw [if_neg (fun h => e h.symm)]; exact ht, hK1, h1.carry hl (hoth b1 h1.lt ?_) (fun h => h)⟩
      rintro rfl
      exact e (S.inj s t _ _ _ _ _ ha ht)
  · intro t u b1 c1 g1 c2 g2 h1 h2
    simp only [Env.turn] at h1 h2
    by_cases et : t = s
    · by_cases eu : u = s
      · rw [et, eu]
      · rw [if_pos et] at h1; rw [if_neg eu] at h2
        cases h1
        rcases hb with rfl | rfl
        · exact absurd (S.inj _ _ _ _ _ _ _ ha h2) (fun h => eu h.symm)
        · have := hblt u _ _ _ h2; omega
    · by_cases eu : u = s
      · rw [if_neg et] at h1; rw [if_pos eu] at h2
        cases h2
        rcases hb with rfl | rfl
        · exact absurd (S.inj _ _ _ _ _ _ _ ha h1) (fun h => et h.symm)
        · have := hblt t _ _ _ h1; omega
      · rw [if_neg et] at h1; rw [if_neg eu] at h2
        exact S.inj t u b1 c1 g1 c2 g2 h1 h2

/-! ### what slices and strings hold -/
theorem flatten_length {sz : Nat} : ∀ {rows : List (List AV)}, (∀ row, row ∈ rows → row.length = sz) → rows.flatten.length = rows.length * sz
  | [], _ => by simp
  | r :: rows, h => by
    rw [List.flatten_cons, List.length_append, flatten_length (fun row hr => h row (by simp [hr])), h r (by simp), List.length_cons, Nat.succ_mul, Nat.add_comm]
theorem flatten_get {sz : Nat} (hz : 0 < sz) : ∀ {rows : List (List AV)} {k : Nat} {a : AV}, (∀ row, row ∈ rows → row.length = sz) → rows.flatten[k]? = some a → ∃ row, rows[k / sz]? = some row ∧ row[k % sz]? = some a
  | [], k, a, _, h => by simp at h
  | r :: rows, k, a, hr, h => by
    rw [List.flatten_cons] at h
    have hl := hr r (by simp)
    rcases Nat.lt_or_ge k sz with hk | hk
    · rw [List.getElem?_append_left (by omega)] at h
      exact ⟨r, by rw [Nat.div_eq_of_lt hk]; rfl, by rw [Nat.mod_eq_of_lt hk]; exact h⟩
    · rw [List.getElem?_append_right (by omega), hl] at h
      obtain ⟨row, h1, h2⟩ := flatten_get hz (fun row h => hr row (by simp [h])) h
      refine ⟨row, ?_, ?_⟩
      · rw [show k / sz = (k - sz) / sz + 1 by rw [Nat.div_eq_sub_div hz hk]]
        simpa using h1
      · rw [Nat.mod_eq_sub_mod hk]; exact h2

theorem toBytes_get {s : List UInt8} {i : Nat} {a : AV} (h : (toBytes s)[i]? = some a) : ∃ b, s[i]? = some b ∧ a = .int .u8 b.toNat := by
  unfold toBytes at h
  rw [List.getElem?_map] at h
  cases hs : s[i]? with
  | none => rw [hs] at h; cases h
  | some b => rw [hs] at h; cases h; exact ⟨b, rfl, rfl⟩

structure Holds (P : Program) (E : Env) (w : World) (c : List AV) (n sz : Nat) (v : Value) : Prop where
  len : (Builtin.lenOf v).run P w = .ok n w
  cells : ∀ k, k ≤ n → ∃ cs, (∀ w' : World, w'.heap = w.heap → (Builtin.firstCells sz k v).run P w' = .ok cs w') ∧ RelC E (c.take (k * sz)) cs

theorem run_loads0 {P : Program} {w : World} {a : Addr} : (loadCells a 0).run P w = .ok #[] w := rfl

theorem relC_extract {E : Env} {c : List AV} {cs : Array Value} {o n : Nat} (hn : n ≤ c.length) (hs : o + n ≤ cs.size) (hr : ∀ (i : Nat) (a : AV), c[i]? = some a → Rel E a (gd cs (o + i))) (hf : ∀ i, i < n → (gd cs (o + i)).oneCell' = true) :
    RelC E (c.take n) (cs.extract o (o + n)) := by
  have hlen : (c.take n).length = n := by simp; omega
  refine ⟨⟨by rw [hlen]; simp; omega, ?_⟩, ?_⟩
  · intro i a hi
    have hin : i < n := by
      rcases Nat.lt_or_ge i n with h' | h'
      · exact h'
      · rw [List.getElem?_eq_none (by omega)] at hi; cases hi
    rw [gd_extract hs hin]
    rw [List.getElem?_take, if_pos hin] at hi
    exact hr i a hi
  · intro i hi
    have hin : i < n := by simp at hi; omega
    rw [gd_extract hs hin]
    exact hf i hin

theorem holds {T : Tab} {P : Program} (hT : TabOk T P) {K W E σ w} (S : Sim T K W E σ w) {a : AV} {v : Value} {c : List AV} {n sz : Nat} (h : cellsIn T σ a = some (c, n)) (hr : Rel E a v) (hsz : n * sz = c.length) : Holds P E w c n sz v := by
  cases a <;> simp only [cellsIn] at h
  case snil =>
    cases h; cases hr
    refine ⟨rfl, fun k hk => ⟨#[], fun _ _ => rfl, ⟨⟨by simp, fun i a hi => by simp at hi⟩, fun i hi => by simp at hi⟩⟩⟩
  case slist rows tight =>
    cases h
    cases hr with
    | slist0 ht =>
      refine ⟨rfl, fun k hk => ⟨#[], ?_, ⟨⟨by simp, fun i a hi => by simp at hi⟩, fun i hi => by simp at hi⟩⟩⟩
      simp at hk; subst hk
      intro w' _
      simp only [Builtin.firstCells, Nat.zero_mul]; exact run_loads0
    | @slist _ _ _ b o sz' cap cs te hH h1 h2 h3 h4 h5 h6 =>
      obtain ⟨fz, hh⟩ := S.inn b cs te hH
      have hfl := flatten_length h3
      by_cases hr0 : rows = []
      · subst hr0
        refine ⟨rfl, fun k hk => ⟨#[], ?_, ⟨⟨by simp, fun i a hi => by simp at hi⟩, fun i hi => by simp at hi⟩⟩⟩
        simp at hk; subst hk
        intro w' _
        simp only [Builtin.firstCells, Nat.zero_mul]; exact run_loads0
      · have hpos : 0 < rows.length := by cases rows with | nil => exact absurd rfl hr0 | cons => simp
        have hszz : sz = sz' := by
          rw [hfl] at hsz
          exact Nat.eq_of_mul_eq_mul_left hpos hsz
        subst hszz
        refine ⟨rfl, fun k hk => ⟨cs.extract o (o + k * sz), ?_, ?_⟩⟩
        · have : k * sz ≤ rows.length * sz := Nat.mul_le_mul_right sz hk
          intro w' hw'
          simp only [Builtin.firstCells]
          exact run_loads (by rw [hw']; exact hh) (by omega)
        · have hk' : k * sz ≤ rows.length * sz := Nat.mul_le_mul_right sz hk
          rcases Nat.eq_zero_or_pos sz with h0 | h0
          · subst h0
            simp only [Nat.mul_zero, List.take_zero, Nat.add_zero]
            refine ⟨⟨by simp only [List.length_nil, Array.size_extract]; omega, fun i a hi => by simp at hi⟩, fun i hi => by simp only [Array.size_extract] at hi; omega⟩
          · refine relC_extract (by rw [hfl]; exact hk') (by omega) ?_ ?_
            · intro i a hi
              obtain ⟨row, g1, g2⟩ := flatten_get h0 h3 hi
              have := h6 _ _ _ _ g1 g2
              have e : o + i / sz * sz + i % sz = o + i := by have := Nat.div_add_mod i sz; rw [Nat.mul_comm] at this; omega
              rw [e] at this
              exact this.mono E.pure_le'
            · intro i hi
              have hlt : i < rows.length * sz := by omega
              have := h5 (i / sz) (i % sz) (Nat.div_lt_of_lt_mul (by rw [Nat.mul_comm]; exact hlt)) (Nat.mod_lt _ h0)
              have e : o + i / sz * sz + i % sz = o + i := by have := Nat.div_add_mod i sz; rw [Nat.mul_comm] at this; omega
              rw [e] at this
              exact this
  case sown s g len =>
    split at h
    · rename_i k c' te m hg
      cases hs : T.size te with
      | none => rw [hs] at h; cases h
      | some sz' =>
        rw [hs] at h
        simp only at h
        cases hb : Nat.beq k g && Nat.ble (len * sz') c'.length with
        | false => rw [hb] at h; cases h
        | true =>
          rw [hb, cond_true] at h
          cases h
          rw [Bool.and_eq_true, nbeq_iff, nble_iff] at hb
          obtain ⟨rfl, hle⟩ := hb
          obtain ⟨b, cap, cs, fz, ha, hK, hc⟩ := S.arr_at hg
          obtain ⟨rfl, hlc⟩ := rel_sown ha hr
          have hszl : n * sz = n * sz' := by rw [hsz, List.length_take]; omega
          refine ⟨rfl, fun k hk => ⟨cs.extract 0 (0 + k * sz), ?_, ?_⟩⟩
          · have hk' : k * sz ≤ n * sz := Nat.mul_le_mul_right sz hk
            intro w' hw'
            simp only [Builtin.firstCells]
            exact run_loads (by rw [hw']; exact hc.heap) (by have := hc.le; omega)
          · have hk' : k * sz ≤ n * sz := Nat.mul_le_mul_right sz hk
            rw [List.take_take, Nat.min_eq_left (by omega)]
            refine relC_extract (by omega) (by have := hc.le; omega) ?_ ?_
            · intro i a hi; rw [Nat.zero_add]; exact hc.rel i a hi
            · intro i hi; rw [Nat.zero_add]; exact hc.flat i (by omega)
    · cases h
  case str s =>
    cases h; cases hr
    have hsl : (toBytes s).length = s.length := by simp [toBytes]
    have hsize : (⟨s.toArray⟩ : ByteArray).size = s.length := by simp [ByteArray.size]
    refine ⟨by simp [Builtin.lenOf, hsize], fun k hk => ?_⟩
    have hks : k * sz = k := by
      rw [hsl] at hsz
      rcases Nat.eq_zero_or_pos s.length with h0 | h0
      · have : k = 0 := by omega
        subst this; simp
      · have : sz = 1 := Nat.eq_of_mul_eq_mul_left h0 (by rw [hsz]; omega)
        rw [this]; omega
    refine ⟨_, fun _ _ => rfl, ?_⟩
    rw [hks]
    have hex : ((⟨s.toArray⟩ : ByteArray).extract 0 k).data = (s.take k).toArray := by
      simp
    rw [hex]
    refine ⟨⟨by simp [hsl], ?_⟩, ?_⟩
    · intro i a hi
      rw [List.getElem?_take] at hi
      split at hi
      · rename_i hik
        obtain ⟨b, hb, rfl⟩ := toBytes_get hi
        rw [gd_of (v := .int .u8 b.toNat) (by simp [List.getElem?_take, hik, hb])]
        exact .int
      · cases hi
    · intro i hi
      simp at hi
      have : i < s.length := by omega
      rw [gd_of (v := .int .u8 (s[i].toNat : Int)) (by simp [List.getElem?_take, show i < k by omega, this])]
      rfl
  all_goals cases h

theorem slice_of {T K W E σ w} (S : Sim T K W E σ w) {a : AV} {v : Value} {c : List AV} {n : Nat} (hi : isSl a = true) (h : cellsIn T σ a = some (c, n)) (hr : Rel E a v) : ∃ base cap, v = .slice base n cap ∧ n ≤ cap := by
  cases a <;> simp only [isSl, Bool.false_eq_true] at hi
  case snil => cases h; cases hr; exact ⟨_, _, rfl, Nat.le_refl _⟩
  case slist rows tight =>
    cases h
    cases hr with
    | slist0 ht => exact ⟨_, _, rfl, Nat.zero_le _⟩
    | slist h1 h2 h3 h4 h5 h6 h7 => exact ⟨_, _, rfl, h2⟩
  case sown s g len =>
    simp only [cellsIn] at h
    split at h
    · rename_i k c' te m hg
      cases hs : T.size te with
      | none => rw [hs] at h; cases h
      | some sz' =>
        rw [hs] at h
        simp only at h
        cases hb : Nat.beq k g && Nat.ble (len * sz') c'.length with
        | false => rw [hb] at h; cases h
        | true =>
          rw [hb, cond_true] at h
          cases h
          rw [Bool.and_eq_true, nbeq_iff] at hb
          obtain ⟨rfl, _⟩ := hb
          obtain ⟨b, cap, cs, fz, ha, hK, hc⟩ := S.arr_at hg
          obtain ⟨rfl, hlc⟩ := rel_sown ha hr
          exact ⟨_, _, rfl, hlc⟩
    · cases h

theorem len_of {T K W E σ w} (S : Sim T K W E σ w) {P : Program} {a : AV} {v : Value} {c : List AV} {n : Nat} (h : cellsIn T σ a = some (c, n)) (hr : Rel E a v) : (Builtin.lenOf v).run P w = .ok n w ∧ ((∃ b cap, v = .slice b n cap) ∨ ∃ s, v = .string s ∧ s.size = n) := by
  by_cases hi : isSl a = true
  · obtain ⟨b, cap, rfl, _⟩ := slice_of S hi h hr
    exact ⟨rfl, .inl ⟨_, _, rfl⟩⟩
  · cases a <;> simp only [isSl, not_true, Bool.false_eq_true, not_false_iff] at hi <;> simp only [cellsIn] at h <;> first
      | (cases h; done)
      | skip
    rename_i s
    cases h; cases hr
    have hsize : (⟨s.toArray⟩ : ByteArray).size = s.length := by simp [ByteArray.size]
    exact ⟨by simp [Builtin.lenOf, hsize], .inr ⟨_, rfl, hsize⟩⟩
end Go.Proofs.YtgklmecijeadlaaGreatDoor.Ab
