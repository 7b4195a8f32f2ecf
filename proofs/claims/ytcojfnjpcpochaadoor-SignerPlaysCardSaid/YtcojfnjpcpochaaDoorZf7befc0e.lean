import Derived.Test.YtcojfnjpcpochaaDoorZ2b98b997
import Derived.Test.YtcojfnjpcpochaaDoorProg
import Derived.Test.YtcojfnjpcpochaaDoorZ1427d808
section
namespace Go.Proofs.YtcojfnjpcpochaaDoor.V

theorem word_be4 (x : UInt32) (r : List UInt8) : wordOf (be4 x ++ r) = x := by
  apply UInt32.toNat_inj.1
  have hx := x.toNat_lt
  simp only [wordOf, be4, nth, List.cons_append, List.nil_append, List.getElem?_cons_zero, List.getElem?_cons_succ, Option.getD_some, shl32, shr32, UInt32.toNat_or, UInt32.toNat_ofNat', UInt8.toNat_toUInt32, UInt32.toNat_toUInt8]
  generalize x.toNat = n at hx ⊢
  apply Nat.eq_of_testBit_eq
  intro i
  have h32 : ∀ j, 32 ≤ j → n.testBit j = false := fun j hj => Nat.testBit_lt_two_pow (Nat.lt_of_lt_of_le hx (Nat.pow_le_pow_right (by decide) hj))
  simp only [← Nat.shiftLeft_eq, ← Nat.shiftRight_eq_div_pow, Nat.testBit_or, Nat.testBit_mod_two_pow, Nat.testBit_shiftLeft, Nat.testBit_shiftRight]
  by_cases a : 32 ≤ i
  · rw [h32 i a]; simp; omega
  · by_cases b : 24 ≤ i
    · have : 24 + (i - 24) = i := by omega
      rw [this]; generalize n.testBit i = b; cases b <;> simp <;> omega
    · by_cases c : 16 ≤ i
      · have : 16 + (i - 16) = i := by omega
        rw [this]; generalize n.testBit i = b; cases b <;> simp <;> omega
      · by_cases d : 8 ≤ i
        · have : 8 + (i - 8) = i := by omega
          rw [this]; generalize n.testBit i = b; cases b <;> simp <;> omega
        · generalize n.testBit i = b; cases b <;> simp <;> omega

theorem be4_length (x : UInt32) : (be4 x).length = 4 := rfl
theorem readSt_text (s : St) : readSt s.text = s := by
  obtain ⟨a, b, c, d, e, f, g, h⟩ := s
  have drop4 : ∀ (x : UInt32) (r : List UInt8), (be4 x ++ r).drop 4 = r := fun x r => rfl
  have e : (St.mk a b c d e f g h).text = be4 a ++ (be4 b ++ (be4 c ++ (be4 d ++ (be4 e ++ (be4 f ++ (be4 g ++ (be4 h ++ []))))))) := rfl
  rw [e]
  unfold readSt
  have d8 : ∀ (l : List UInt8), l.drop 8 = (l.drop 4).drop 4 := fun l => by rw [List.drop_drop]
  have d12 : ∀ (l : List UInt8), l.drop 12 = ((l.drop 4).drop 4).drop 4 := fun l => by simp only [List.drop_drop]
  have d16 : ∀ (l : List UInt8), l.drop 16 = (((l.drop 4).drop 4).drop 4).drop 4 := fun l => by simp only [List.drop_drop]
  have d20 : ∀ (l : List UInt8), l.drop 20 = ((((l.drop 4).drop 4).drop 4).drop 4).drop 4 := fun l => by simp only [List.drop_drop]
  have d24 : ∀ (l : List UInt8), l.drop 24 = (((((l.drop 4).drop 4).drop 4).drop 4).drop 4).drop 4 := fun l => by simp only [List.drop_drop]
  have d28 : ∀ (l : List UInt8), l.drop 28 = ((((((l.drop 4).drop 4).drop 4).drop 4).drop 4).drop 4).drop 4 := fun l => by simp only [List.drop_drop]
  rw [d8, d12, d16, d20, d24, d28]
  simp only [drop4, word_be4]

theorem eat_append (m n : Nat) : ∀ (v : St) (x y : List UInt8), x.length = 64 * m → eat (m + n) v (x ++ y) = eat n (eat m v x) y := by
  induction m with
  | zero =>
    intro v x y h
    obtain rfl : x = [] := List.eq_nil_of_length_eq_zero (by omega)
    simp [eat]
  | succ m ih =>
    intro v x y h
    rw [Nat.succ_add, eat, eat, List.take_append_of_le_length (by omega), List.drop_append_of_le_length (by omega)]
    exact ih _ _ _ (by rw [List.length_drop]; omega)

def padTail (n : Nat) : List UInt8 := be4 (UInt64.toUInt32 (shr64 (8 * UInt64.ofNat n) 32)) ++ be4 (8 * UInt32.ofNat n)
def pickN (c : Int) (n : Nat) : Nat := ((if c < 0 then -(c + 1) else c) % n).toNat
end Go.Proofs.YtcojfnjpcpochaaDoor.V
end
section
namespace Go.Proofs.YtcojfnjpcpochaaDoor.V
open Go Go.RowKit

theorem u8info : (Tryd.prog.info? 5).map (fun i => (i.zero, i.size, i.bytes)) = some (some (.int .u8 0), 1, 1) := by kernel_rfl
theorem u32size : (Tryd.prog.info? 106).map (·.size) = some 1 := by kernel_rfl
def obytes (w : World) (base : Nat) (v : Value) (l : List UInt8) : Prop := w.ownsRow base 5 1 v l.length (bvs l)
theorem obytes_nil (w : World) (base : Nat) : obytes w base (.slice none 0 0) [] := World.ownsRow_nil w base _ 1
theorem obytes.kept {w w' : World} {base : Nat} {v : Value} {l : List UInt8} (h : obytes w base v l) {S : List Nat} (hf : Fr S w w') (hS : ∀ k, v.ownBlock = some k → k ∉ S) : obytes w' base v l := hf.own h hS

theorem Src.new {w : World} (tx e' : TypeId) (hk : Tryd.prog.underlying tx = some (.slice e')) (cs : Array Value) (e : TypeId) (h1 : ∀ u ∈ cs.toList, u.oneCell' = true) :
    Src Tryd.prog 1 tx (.slice (some ⟨w.heap.size, 0, none⟩) cs.size cs.size) cs.size cs.toList (w.alloc (.cells cs e)) := by
  refine Src.ofSlice _ hk ⟨w.heap.size, 0, none⟩ cs.size cs.size cs.toList (by simp) ?_ h1
  intro j u hu
  have hadd : (⟨w.heap.size, 0, none⟩ : Addr).add j = ⟨w.heap.size, j, none⟩ := by unfold Addr.add; split <;> simp_all
  rw [hadd, World.cell?_alloc_at _ _ _ _ rfl]
  simpa using hu

theorem obytes.src {w : World} {base : Nat} {v : Value} {l : List UInt8} (h : obytes w base v l) : Src Tryd.prog 1 69 v l.length (bvs l) w := by
  rcases h.2 with ⟨rfl, h0⟩ | ⟨g, cap, cur, rfl, hbg, hg, hnc, hcm, hcs, htake⟩
  · obtain rfl : l = [] := List.eq_nil_of_length_eq_zero h0
    exact Src.ofNil w Tryd.underlying69 0
  · exact Src.ofSlice w Tryd.underlying69 ⟨g, 0, none⟩ l.length cap (bvs l) (by simp [bvs_length]) (World.ownsRow.cells h (g := g) rfl) (bvs_one l)
theorem obytes.lt {w : World} {base : Nat} {v : Value} {l : List UInt8} (h : obytes w base v l) : ∀ k, v.ownBlock = some k → base ≤ k ∧ k < w.heap.size := World.ownsRow.lt h
theorem obytes.slice {w : World} {base : Nat} {v : Value} {l : List UInt8} (h : obytes w base v l) : ∃ g cap, v = .slice g l.length cap := by
  rcases h.2 with ⟨hv, h0⟩ | ⟨g, cap, cur, hv, _⟩
  · exact ⟨_, _, by rw [h0]; exact hv⟩
  · exact ⟨_, _, hv⟩

theorem obytes.text {w : World} {base : Nat} {v : Value} {l : List UInt8} (h : obytes w base v l) : (convert 69 9 v).run Tryd.prog w = .ok (.string (B l)) w := by
  rcases h.2 with ⟨rfl, h0⟩ | ⟨g, cap, cur, rfl, hbg, hg, hnc, hcm, hcs, htake⟩
  · obtain rfl : l = [] := List.eq_nil_of_length_eq_zero h0
    exact run_b2s_nil w _ _ 5 Tryd.underlying69 Tryd.underlying5 Tryd.underlying9 0 0
  · exact run_b2s w _ _ 5 Tryd.underlying69 Tryd.underlying5 Tryd.underlying9 ⟨g, 0, none⟩ cap l (World.ownsRow.cells h (g := g) rfl)

theorem wpList_ap_bytes {ops : Array Oper} {rest : List Oper} {o : Oper} {a : Act} {Q : Exit → Act → World → Prop} {w : World} (hgd : o.guard = none) (s x : Operand) (tx : TypeId)
    (ho : o.op = .call { callee := .builtin .append, args := #[s, x], argTypes := #[69, tx] })
    (base : Nat) (v : Value) (l : List UInt8) (hv : a.eval s = v) (hown : obytes w base v l) (xv : Value) (m : List UInt8) (n : Nat) (hx : a.eval x = xv) (hs : Src Tryd.prog 1 tx xv n (bvs m) w)
    (hb : l.length + m.length ≤ 140737488355328) (hbase : base ≤ w.heap.size)
    (h : ∀ v' w', obytes w' base v' (l ++ m) → w.grownBy w' v.ownBlock → (v'.ownBlock = v.ownBlock ∨ v'.ownBlock = some w.heap.size) → wpList Tryd.prog ops Q rest (a.put o.dst v') w') : wpList Tryd.prog ops Q (o :: rest) a w := by
  obtain ⟨i, hi, hz, hs1, hb1⟩ := info_parts u8info
  have hn : n = m.length := by have := hs.newsLen; rw [bvs_length] at this; omega
  subst hn
  refine wpList_plain hgd fun K hK => wp_append_any w s x 69 tx ho base 5 i (.int .u8 0) 1 1 Tryd.underlying69 hi hz hs1 hb1 rfl (by decide) v l.length (bvs l) hv hown xv m.length (bvs m) hx hs
    (by unfold maxLen; omega) (by omega) hbase ?_
  intro v' w' h1 h2 h3
  refine hK _ _ (h v' w' ?_ h2 h3)
  unfold obytes
  rw [List.length_append, bvs_append]
  exact h1
theorem bvs_zeros (m : Nat) : bvs (List.replicate m 0) = List.replicate m (.int .u8 0) := by simp [bvs, bv, U8]
theorem wpList_ap_zeros {ops : Array Oper} {rest : List Oper} {o : Oper} {a : Act} {Q : Exit → Act → World → Prop} {w : World} (hgd : o.guard = none) (s x : Operand)
    (ho : o.op = .call { callee := .builtin .append, args := #[s, x], argTypes := #[69, 3] })
    (base : Nat) (v : Value) (l : List UInt8) (hv : a.eval s = v) (hown : obytes w base v l) (m : Nat) (hx : a.eval x = .int .i64 (m : Int))
    (hb : l.length + m ≤ 140737488355328) (hbase : base ≤ w.heap.size)
    (h : ∀ v' w', obytes w' base v' (l ++ List.replicate m 0) → w.grownBy w' v.ownBlock → (v'.ownBlock = v.ownBlock ∨ v'.ownBlock = some w.heap.size) → wpList Tryd.prog ops Q rest (a.put o.dst v') w') : wpList Tryd.prog ops Q (o :: rest) a w := by
  obtain ⟨i, hi, hz, hs1, hb1⟩ := info_parts u8info
  refine wpList_plain hgd fun K hK => wp_append_zeros s x 69 3 ho base 5 .i64 i (.int .u8 0) 1 Tryd.underlying69 Tryd.underlying3 hi hz hs1 hb1 rfl rfl v l.length (bvs l) hv hown m hx
    (by unfold maxLen; omega) (by omega) hbase ?_
  intro v' w' h1 h2 h3
  refine hK _ _ (h v' w' ?_ h2 h3)
  unfold obytes
  rw [List.length_append, bvs_append, bvs_zeros, List.length_replicate]
  exact h1
end Go.Proofs.YtcojfnjpcpochaaDoor.V
end
section
namespace Go.Proofs.YtcojfnjpcpochaaDoor.V
open Go Go.RowKit
attribute [local go_sem] B_size B_append B_extract mk_B B_toList take_drop_len List.length_drop List.length_take sgn32 sgn64 add32 sub32 mul32 add64 sub64 mul64 mul64_8 and32 or32 xor32 and64 or64 xor64 shl32_run shr32_run shl64_run shr64_run not32 not32' xor32_all w_u32_u8 w_u64_u8 w_i64_u8 w_u8_u32 w_u8_u64 w_u32_u64 w_u64_u32 w_u8_u8 w_u32_u32 w_u64_u64
attribute [local go_sem ↓] run_index_B' add32 sub32 mul32 add64 sub64 mul64 mul64_8 and32 or32 xor32 and64 or64 xor64 shl32_run shr32_run shl64_run shr64_run not32 not32' xor32_all w_u32_u8 w_u64_u8 w_i64_u8 w_u8_u32 w_u8_u64 w_u32_u64 w_u64_u32 w_u8_u8 w_u32_u32 w_u64_u64 w_u64_nat w_u32_nat w_u8_nat
set_option maxRecDepth 4000

set_option maxHeartbeats 400000 in
theorem word_ok (l : List UInt8) (w : World) (h4 : 4 ≤ l.length) :
    Calls Tryd.prog 97 #[.string (B l)] w fun e w' => e = .returned (.int .u32 (U32 (wordOf l))) ∧ ∃ n, w' = w.drewN n := by
  have g0 : (0:Int) < (l.length : Int) := by omega
  have g1 : (1:Int) < (l.length : Int) := by omega
  have g2 : (2:Int) < (l.length : Int) := by omega
  have g3 : (3:Int) < (l.length : Int) := by omega
  go_enter Tryd.func97, Tryd.ntmps97
  go_wp2
  go_quiet (fail)
  go_wp2
  go_ret
  exact ⟨rfl, _, rfl⟩

set_option maxHeartbeats 400000 in
theorem rotl_ok (x : UInt32) (n : Nat) (w : World) (h0 : 0 < n) (h1 : n < 32) :
    Calls Tryd.prog 103 #[.int .u32 (U32 x), .int .i64 (-(n : Int))] w fun e w' => e = .returned (.int .u32 (U32 (ror x n))) ∧ w = w' := by
  have k1 : bits BinOp.and IntKind.u64 (IntKind.u64.wrap (-(n : Int))) 31 = ((32 - n : Nat) : Int) := by
    rw [IntKind.wrap_u64, show (-(n : Int)) % 18446744073709551616 = ((18446744073709551616 - n : Nat) : Int) by omega, show (31 : Int) = ((31 : Nat) : Int) from rfl,
      u64_and_nat _ _ (by omega) (by omega), nat_mask5]
    omega
  have k2 : IntKind.u64.wrap (32 - ((32 - n : Nat) : Int)) = ((n : Nat) : Int) := by rw [IntKind.wrap_u64]; omega
  have k3 : (0 : Int) ≤ ((32 - n : Nat) : Int) := by omega
  go_enter Tryd.func103, Tryd.ntmps103
  go_wp2
  go_ret
  exact ⟨rfl, rfl⟩

set_option maxHeartbeats 400000 in
theorem right_ok (x : UInt32) (n : Int) (w : World) (h0 : 0 < n) (h1 : n < 32) :
    Calls Tryd.prog 98 #[.int .u32 (U32 x), .int .i64 n] w fun e w' => e = .returned (.int .u32 (U32 (ror x n.toNat))) ∧ w = w' := by
  obtain ⟨n, rfl⟩ := Int.eq_ofNat_of_zero_le (Int.le_of_lt h0)
  rw [Int.toNat_natCast]
  go_enter Tryd.func98, Tryd.ntmps98
  go_wp2_with fail
  refine (rotl_ok x n _ (by omega) (by omega)).mono ?_
  rintro e w' ⟨rfl, rfl⟩
  go_wp2
  go_ret
  exact ⟨rfl, rfl⟩

def RetBytes (w : World) (base : Nat) (v : Value) (l : List UInt8) (e : Ending) (w' : World) : Prop :=
  ∃ v', e = .returned v' ∧ obytes w' base v' l ∧ Fr v.ownBlock.toList w w' ∧ (v'.ownBlock = v.ownBlock ∨ ∃ k, v'.ownBlock = some k ∧ w.heap.size ≤ k)

set_option maxHeartbeats 400000 in
theorem lay_ok (x : UInt32) (base : Nat) (v : Value) (l : List UInt8) (w : World) (hown : obytes w base v l) (hb : l.length + 4 ≤ 140737488355328) (hbase : base ≤ w.heap.size) :
    Calls Tryd.prog 96 #[v, .int .u32 (U32 x)] w (RetBytes w base v (l ++ be4 x)) := by
  go_enter Tryd.func96, Tryd.ntmps96
  go_wp2_with (at_builtin; refine wpList_ap_bytes rfl _ _ _ rfl base v l rfl ?own _ (be4 x) 4 rfl ?src hb ?base ?_)
  case own => exact hown.alloc _
  case src => exact Src.new _ _ Tryd.underlying69 #[_, _, _, _] _ (bvs_one (be4 x))
  case base => simp; omega
  intro v' w' h1 h2 h3
  have HF : Hid (Fr v.ownBlock.toList w w') := Lib.hid (((Fr.refl _ w).alloc _).grown h2 (fun k hk => .inl (by simp [hk])))
  have H3 : Hid (v'.ownBlock = v.ownBlock ∨ ∃ k, v'.ownBlock = some k ∧ w.heap.size ≤ k) := Lib.hid (h3.imp id fun h => ⟨_, h, by simp⟩)
  clear h2 h3
  go_wp2
  go_ret
  exact ⟨v', rfl, h1, HF.out, H3.out⟩

def St.cells (s : St) : Array Value := #[.int .u32 (U32 s.a), .int .u32 (U32 s.b), .int .u32 (U32 s.c), .int .u32 (U32 s.d), .int .u32 (U32 s.e), .int .u32 (U32 s.f), .int .u32 (U32 s.g), .int .u32 (U32 s.h)]
theorem cells8 {w : World} {g : Nat} {s : St} {T : TypeId} (hg : w.heap[g]? = some (.cells s.cells T (0, 0))) :
    w.cell? ⟨g, 0, none⟩ = some (.int .u32 (U32 s.a)) ∧ w.cell? ⟨g, 1, none⟩ = some (.int .u32 (U32 s.b)) ∧ w.cell? ⟨g, 2, none⟩ = some (.int .u32 (U32 s.c)) ∧ w.cell? ⟨g, 3, none⟩ = some (.int .u32 (U32 s.d)) ∧
    w.cell? ⟨g, 4, none⟩ = some (.int .u32 (U32 s.e)) ∧ w.cell? ⟨g, 5, none⟩ = some (.int .u32 (U32 s.f)) ∧ w.cell? ⟨g, 6, none⟩ = some (.int .u32 (U32 s.g)) ∧ w.cell? ⟨g, 7, none⟩ = some (.int .u32 (U32 s.h)) ∧
    ∀ o, w.frozen? ⟨g, o, none⟩ = false := by
  refine ⟨?_, ?_, ?_, ?_, ?_, ?_, ?_, ?_, fun o => frozen_of_row w g o s.cells T hg⟩ <;> (rw [cell_of_row w g _ s.cells T (0, 0) hg]; rfl)

set_option maxHeartbeats 1000000 in
set_option maxRecDepth 100000 in
theorem round_ok (g : Nat) (s : St) (kw : UInt32) (T : TypeId) (w : World) (hg : w.heap[g]? = some (.cells s.cells T (0, 0))) :
    Calls Tryd.prog 99 #[.pointer (some ⟨g, 0, none⟩), .int .u32 (U32 kw)] w fun e w' => e = .returned (.tuple #[]) ∧ Fr [g] w w' ∧ w'.heap[g]? = some (.cells (rnd s kw).cells T (0, 0)) := by
  obtain ⟨c0, c1, c2, c3, c4, c5, c6, c7, fz⟩ := cells8 hg
  have HG := Lib.hid hg
  clear hg
  go_enter Tryd.func99, Tryd.ntmps99
  go_wp2
  go_quiet (fail)
  go_wp2
  go_quiet ((go_at_call 98; first | exact quiet_left (right_ok _ _ _ (by decide) (by decide)) | exact quiet_add_left (right_ok _ _ _ (by decide) (by decide))))
  go_wp2_with (go_at_call 98; refine (right_ok _ _ _ (by decide) (by decide)).mono ?_; rintro e w' ⟨rfl, rfl⟩)
  have HS : ∀ (j : Nat) (v : Value), [Value.int .u32 (U32 s.a), .int .u32 (U32 s.b), .int .u32 (U32 s.c), .int .u32 (U32 s.d), .int .u32 (U32 s.e), .int .u32 (U32 s.f), .int .u32 (U32 s.g)][j]? = some v → w.cell? ((⟨g, 0, none⟩ : Addr).add j) = some v := by
    intro j v hj
    have hadd : (⟨g, 0, none⟩ : Addr).add j = ⟨g, j, none⟩ := by unfold Addr.add; split <;> simp_all
    rw [hadd]
    rw [cell_of_row w g j s.cells T (0, 0) HG.out, ← hj]
    have hj7 : j < 7 := (List.getElem?_eq_some_iff.1 hj).1
    have : j = 0 ∨ j = 1 ∨ j = 2 ∨ j = 3 ∨ j = 4 ∨ j = 5 ∨ j = 6 := by omega
    rcases this with rfl | rfl | rfl | rfl | rfl | rfl | rfl <;> rfl
  have HS' := Lib.hid HS
  clear HS
  go_region_law ((refine step_copy_row rfl (.tmp 78) (.tmp 81) 119 119 rfl 106 Tryd.underlying119 u32size g 1 7 7 ⟨g, 0, none⟩ 7 8 ?h1 ?h2 s.cells T ?h3 [.int .u32 (U32 s.a), .int .u32 (U32 s.b), .int .u32 (U32 s.c), .int .u32 (U32 s.d), .int .u32 (U32 s.e), .int .u32 (U32 s.f), .int .u32 (U32 s.g)] ?h4 ?h5 ?h6 ?h7 ?h8; (case h1 => simp [Act.eval, Act.put]); (case h2 => simp [Act.eval, Act.put]); (case h3 => exact HG.out); (case h4 => rfl); (case h5 => exact HS'.out); (case h6 => exact Nat.le_refl 8); (case h7 => simp [Value.oneCell']); intro w1 hg1 hf1))
  have hg2 : w1.heap[g]? = some (.cells (St.cells ⟨s.a, s.a, s.b, s.c, s.d, s.e, s.f, s.g⟩) T (0, 0)) := hg1
  have HF := Lib.hid hf1
  have HG2 := Lib.hid hg2
  clear hg1 hf1 c0 c1 c2 c3 c4 c5 c6 c7 fz HS'
  obtain ⟨c0, c1, c2, c3, c4, c5, c6, c7, fz⟩ := cells8 hg2
  clear hg2
  dsimp only at c0 c1 c2 c3 c4 c5 c6 c7
  go_wp2
  go_region
  go_wp2
  go_end0
  refine ⟨rfl, ?_, ?_⟩
  · refine Fr.drew (Fr.setCell (Fr.setCell (((Fr.refl [g] w).drewN _).drew.trans HF.out) (.inl (by simp)) _) (.inl (by simp)) _)
  · rw [heap_drew]
    exact (heap_setCell (heap_setCell HG2.out _) _)

end Go.Proofs.YtcojfnjpcpochaaDoor.V
end
section
namespace Go.Proofs.YtcojfnjpcpochaaDoor.V
open Go Go.RowKit
attribute [local go_sem] B_size B_append B_extract mk_B B_toList take_drop_len List.length_drop List.length_take sgn32 sgn64 add32 sub32 mul32 add64 sub64 mul64 mul64_8 and32 or32 xor32 and64 or64 xor64 shl32_run shr32_run shl64_run shr64_run not32 not32' xor32_all w_u32_u8 w_u64_u8 w_i64_u8 w_u8_u32 w_u8_u64 w_u32_u64 w_u64_u32 w_u8_u8 w_u32_u32 w_u64_u64
attribute [local go_sem ↓] run_index_B' add32 sub32 mul32 add64 sub64 mul64 mul64_8 and32 or32 xor32 and64 or64 xor64 shl32_run shr32_run shl64_run shr64_run not32 not32' xor32_all w_u32_u8 w_u64_u8 w_i64_u8 w_u8_u32 w_u8_u64 w_u32_u64 w_u64_u32 w_u8_u8 w_u32_u32 w_u64_u64 w_u64_nat w_u32_nat w_u8_nat
set_option maxRecDepth 4000

def wv (x : UInt32) : Value := .int .u32 (U32 x)
def arr64 (l : List UInt32) : Array Value := (l.map wv ++ List.replicate (64 - l.length) (wv 0)).toArray
theorem arr64_get (l : List UInt32) (i : Nat) (h : i < l.length) : (arr64 l)[i]? = some (wv (lget l i)) := by
  simp [arr64, lget, List.getElem?_append_left, h]
theorem arr64_set (l : List UInt32) (x : UInt32) (h : l.length < 64) : (arr64 l).setIfInBounds l.length (wv x) = arr64 (l ++ [x]) := by
  unfold arr64
  apply Array.ext'
  obtain ⟨d, hd⟩ := Nat.exists_eq_add_of_lt h
  rw [show 64 - l.length = d + 1 by omega, List.replicate_succ]
  simp [List.set_append_right, show 64 - (l.length + 1) = d by omega]

theorem cell_at {w : World} {g i : Nat} {cur : Array Value} {t : TypeId} {fr : Nat × Nat} {v : Value} (hg : w.heap[g]? = some (.cells cur t fr)) (hv : cur[i]? = some v) : w.cell? ⟨g, i, none⟩ = some v := by
  rw [cell_of_row w g i cur t fr hg, hv]

structure Tabs (w : World) : Prop where
  size : 1 < w.heap.size ∧ 0 < w.heap.size
  k : ∀ i, i < 64 → w.cell? ⟨1, i, none⟩ = some (wv (lget kTab i))
  first : ∃ T, w.heap[0]? = some (.cells first.cells T (0, 0))
theorem Tabs.fr {S : List Nat} {w w' : World} (h : Tabs w) (hf : Fr S w w') (h1 : 1 ∉ S) (h2 : 0 ∉ S) : Tabs w' :=
  ⟨⟨Nat.lt_of_lt_of_le h.size.1 hf.size, Nat.lt_of_lt_of_le h.size.2 hf.size⟩, fun i hi => by rw [hf.cell h.size.1 h1]; exact h.k i hi, by rw [hf.block _ h.size.2 h2]; exact h.first⟩

def partAdd (s x : St) (n : Nat) : List UInt32 := (List.range 8).map fun j => if j < n then lget s.words j + lget x.words j else lget s.words j
theorem partAdd_set (s x : St) (n : Nat) (h : n < 8) : ((partAdd s x n).map wv).toArray.setIfInBounds n (wv (lget s.words n + lget x.words n)) = ((partAdd s x (n + 1)).map wv).toArray := by
  have : n = 0 ∨ n = 1 ∨ n = 2 ∨ n = 3 ∨ n = 4 ∨ n = 5 ∨ n = 6 ∨ n = 7 := by omega
  rcases this with rfl | rfl | rfl | rfl | rfl | rfl | rfl | rfl <;> rfl
theorem partAdd_get (s x : St) (n : Nat) (h : n < 8) : ((partAdd s x n).map wv).toArray[n]? = some (wv (lget s.words n)) := by
  have : n = 0 ∨ n = 1 ∨ n = 2 ∨ n = 3 ∨ n = 4 ∨ n = 5 ∨ n = 6 ∨ n = 7 := by omega
  rcases this with rfl | rfl | rfl | rfl | rfl | rfl | rfl | rfl <;> rfl
theorem cells_get (x : St) (n : Nat) (h : n < 8) : x.cells[n]? = some (wv (lget x.words n)) := by
  have : n = 0 ∨ n = 1 ∨ n = 2 ∨ n = 3 ∨ n = 4 ∨ n = 5 ∨ n = 6 ∨ n = 7 := by omega
  rcases this with rfl | rfl | rfl | rfl | rfl | rfl | rfl | rfl <;> rfl

noncomputable def mixBody : Code := match Tryd.f89.body with
  | some (.scope c) => c
  | _ => .skip
noncomputable def mixRest : Code := (findLabel mixBody 0).getD .skip

structure AtJump (w : World) (g gw gx : Nat) (T Tx : TypeId) (s : St) (blk : List UInt8) (n : Nat) (wr : World) : Prop where
  lt : n < 64
  v : wr.heap[g]? = some (.cells s.cells T (0, 0))
  x : wr.heap[gx]? = some (.cells (rounds s (sched blk 64) n).cells Tx (0, 0))
  ws : wr.heap[gw]? = some (.cells (arr64 (sched blk 64)) 114 (0, 0))
  fr : Fr [] w wr
  tabs : Tabs wr
  gx1 : g ≠ gx
  gx2 : gw ≠ gx
  gx3 : 1 ≠ gx
  gx4 : 0 ≠ gx
  gxn : w.heap.size ≤ gx
def mixJ (g gw gx : Nat) (blk : List UInt8) (R : Nat → World → Prop) (a : Act) (w : World) : Prop :=
  ∃ n : Nat, R n w ∧ ∃ v2 v3 v5 v6 v7 v10 v11 v12 v13 v14 v15 v16 v17 v18 v19 v20 v21 v22 v23 v24 v25 v26 v27 v28 v29 v30 v31 v32 v33 v34 v35 v36 v37 v38 v39 v40 v41 v42 v43 v44 v45 v46 v47 v48 v49 v50 v51 v52 v53 v54 v55 v56 v57 v58 v59 v60 v61 v62 v63 v64 v65 v66 v67 v68 v69 v70 v71 v72 v73 v74 v75 v76 v77 v78 v79 v80 v81 v82 v83 v84 v85 v86 v87 v88 v89 v90 : Value, a = ⟨#[.pointer (some ⟨g, 0, none⟩), .string (B blk), v2, v3, .pointer (some ⟨gw, 0, none⟩), v5, v6, v7, .pointer (some ⟨gx, 0, none⟩), .int .i64 (n : Nat), v10, v11, v12, v13, v14, v15, v16, v17, v18, v19, v20, v21, v22, v23, v24, v25, v26, v27, v28, v29, v30, v31, v32, v33, v34, v35, v36, v37, v38, v39, v40, v41, v42, v43, v44, v45, v46, v47, v48, v49, v50, v51, v52, v53, v54, v55, v56, v57, v58, v59, v60, v61, v62, v63, v64, v65, v66, v67, v68, v69, v70, v71, v72, v73, v74, v75, v76, v77, v78, v79, v80, v81, v82, v83, v84, v85, v86, v87, v88, v89, v90], []⟩

set_option maxHeartbeats 1000000 in
set_option maxRecDepth 100000 in
theorem mix_pass (w : World) (g gw gx : Nat) (T Tx : TypeId) (s : St) (blk : List UInt8) (n : Nat) (wr : World) (hJ : AtJump w g gw gx T Tx s blk n wr) (h : g < w.heap.size) (Q0 : Exit → Act → World → Prop) (v2 v3 v5 v6 v7 v10 v11 v12 v13 v14 v15 v16 v17 v18 v19 v20 v21 v22 v23 v24 v25 v26 v27 v28 v29 v30 v31 v32 v33 v34 v35 v36 v37 v38 v39 v40 v41 v42 v43 v44 v45 v46 v47 v48 v49 v50 v51 v52 v53 v54 v55 v56 v57 v58 v59 v60 v61 v62 v63 v64 v65 v66 v67 v68 v69 v70 v71 v72 v73 v74 v75 v76 v77 v78 v79 v80 v81 v82 v83 v84 v85 v86 v87 v88 v89 v90 : Value)
    (hQ : ∀ a' w', w'.heap[g]? = some (.cells (mixed s blk).cells T (0, 0)) → Fr [g] w w' → a'.defers = [] → Q0 .normal a' w') :
    Code.wp Tryd.prog mixRest (Exit.jump 0 (fun a' w' => mixJ g gw gx blk (AtJump w g gw gx T Tx s blk) a' w' ∧ (64 - (intOf (a'.tmps.getD 9 undef)).toNat) < 64 - n) Q0) ⟨#[.pointer (some ⟨g, 0, none⟩), .string (B blk), v2, v3, .pointer (some ⟨gw, 0, none⟩), v5, v6, v7, .pointer (some ⟨gx, 0, none⟩), .int .i64 (n : Nat), v10, v11, v12, v13, v14, v15, v16, v17, v18, v19, v20, v21, v22, v23, v24, v25, v26, v27, v28, v29, v30, v31, v32, v33, v34, v35, v36, v37, v38, v39, v40, v41, v42, v43, v44, v45, v46, v47, v48, v49, v50, v51, v52, v53, v54, v55, v56, v57, v58, v59, v60, v61, v62, v63, v64, v65, v66, v67, v68, v69, v70, v71, v72, v73, v74, v75, v76, v77, v78, v79, v80, v81, v82, v83, v84, v85, v86, v87, v88, v89, v90], []⟩ wr := by
  conv => arg 2; whnf
  have hk : wr.cell? ⟨1, n, none⟩ = some (.int .u32 (U32 (lget kTab n))) := hJ.tabs.k n hJ.lt
  have hw : wr.cell? ⟨gw, n, none⟩ = some (.int .u32 (U32 (lget (sched blk 64) n))) := cell_at hJ.ws (arr64_get _ _ (by rw [sched_length]; exact hJ.lt))
  have hlt : (n : Int) < 64 := by have := hJ.lt; omega
  have HJ := Lib.hid hJ
  have HQ := Lib.hid hQ
  have HG := Lib.hid h
  clear hJ hQ h
  go_wp2
  refine region_still 7 (by kernel_rfl) (by kernel_rfl) ?_; simp only [List.take_succ_cons, List.take_zero, List.drop_succ_cons, List.drop_zero]; (repeat (first | still_step)); try refine wpStill_nil ?_
  go_wp2_with fail
  refine (round_ok gx (rounds s (sched blk 64) n) _ Tx _ ?hx).mono ?_
  case hx => exact HJ.out.x
  rintro e w1 ⟨rfl, hf1, hx1⟩
  have HF1 := Lib.hid hf1
  have HX1 := Lib.hid hx1
  clear hf1 hx1 hk hw
  go_wp2
  · go_step3
    have hn : n + 1 < 64 := by omega
    refine ⟨rfl, ⟨n + 1, ⟨hn, ?_, HX1.out, ?_, ?_, ?_, HJ.out.gx1, HJ.out.gx2, HJ.out.gx3, HJ.out.gx4, HJ.out.gxn⟩, ?_⟩, ?_⟩
    · rw [HF1.out.block g (Array.getElem?_eq_some_iff.1 HJ.out.v).1 (by simpa using HJ.out.gx1)]
      exact HJ.out.v
    · rw [HF1.out.block gw (Array.getElem?_eq_some_iff.1 HJ.out.ws).1 (by simpa using HJ.out.gx2)]
      exact HJ.out.ws
    · exact HJ.out.fr.drew.trans' HF1.out (fun _ h => .inl h) (fun x hx => .inr (by simp at hx; subst hx; exact HJ.out.gxn))
    · exact HJ.out.tabs.fr ((Fr.refl [gx] wr).drew.trans HF1.out) (by simpa using HJ.out.gx3) (by simpa using HJ.out.gx4)
    · exact ⟨_, _, _, _, _, _, _, _, _, _, _, _, _, _, _, _, _, _, _, _, _, _, _, _, _, _, _, _, _, _, _, _, _, _, _, _, _, _, _, _, _, _, _, _, _, _, _, _, _, _, _, _, _, _, _, _, _, _, _, _, _, _, _, _, _, _, _, _, _, _, _, _, _, _, _, _, _, _, _, _, _, _, _, _, _, _, rfl⟩
    · simp [intOf]; omega
  · have hn : n + 1 = 64 := by omega
    have hgs : g < w.heap.size := HG.out
    have hv1 : w1.heap[g]? = some (.cells s.cells T (0, 0)) := by
      rw [HF1.out.block g (Array.getElem?_eq_some_iff.1 HJ.out.v).1 (by simpa using HJ.out.gx1)]
      exact HJ.out.v
    have hx1 : w1.heap[gx]? = some (.cells (rounds s (sched blk 64) 64).cells Tx (0, 0)) := by
      have e : rounds s (sched blk 64) 64 = rnd (rounds s (sched blk 64) n) (lget kTab n + lget (sched blk 64) n) := by
        obtain rfl : n = 63 := by omega
        rfl
      rw [e]
      exact HX1.out
    have hf1 : Fr [g] w w1 := HJ.out.fr.drew.trans' HF1.out (fun _ h => by cases h) (fun x hx => .inr (by simp at hx; subst hx; exact HJ.out.gxn))
    have HV1 := Lib.hid hv1
    have HXX := Lib.hid hx1
    have HF := Lib.hid hf1
    have HGX := Lib.hid HJ.out.gx1
    have HN := Lib.hid hn
    clear hv1 hx1 hf1 hn HF1 HX1 HJ hgs
    go_loopg [76] 8 (fun k i w2 => ∃ m : Nat, m + k = 8 ∧ i = .int .i64 m ∧ Hid (w2.heap[g]? = some (.cells ((partAdd s (rounds s (sched blk 64) 64) m).map wv).toArray T (0, 0))) ∧ Hid (Fr [g] w1 w2))
    case atStart => exact ⟨0, rfl, rfl, (show _ from HV1.out), (show Fr [g] w1 w1 from Fr.refl _ _)⟩
    case round =>
      obtain ⟨m, hm, rfl, H1, H2⟩ := hrel
      have HM := Lib.hid hm
      clear hm
      have hfz : ∀ (o : Nat), wr.frozen? ⟨g, o, none⟩ = false := fun o => frozen_of_row _ _ o _ _ H1.out
      by_cases hm8 : m < 8
      · have c1 : wr.cell? ⟨g, m, none⟩ = some (.int .u32 (U32 (lget s.words m))) := cell_at H1.out (partAdd_get _ _ _ hm8)
        have c2 : wr.cell? ⟨gx, m, none⟩ = some (.int .u32 (U32 (lget (rounds s (sched blk 64) 64).words m))) := by
          rw [H2.out.cell (Array.getElem?_eq_some_iff.1 HXX.out).1 (by simpa using Ne.symm HGX.out)]
          exact cell_at HXX.out (cells_get _ _ hm8)
        have hm8' : (m : Int) < 8 := by omega
        go_wp2
        refine region_still 11 (by kernel_rfl) (by kernel_rfl) ?_; simp only [List.take_succ_cons, List.take_zero, List.drop_succ_cons, List.drop_zero]; (repeat (first | still_step)); try refine wpStill_nil ?_
        go_wp2
        go_roundg (gk - 1)
        case rel =>
          refine ⟨m + 1, by have := HM.out; omega, by simp, (show _ = _ from ?_), (show Fr _ _ _ from ?_)⟩
          · rw [heap_drew, heap_setCell H1.out]
            congr 2
            exact partAdd_set _ _ _ hm8
          · exact Fr.drew (Fr.setCell H2.out (.inl (by simp)) _)
        case measure => have := HM.out; omega
      · have hm8' : m = 8 := by have := HM.out; omega
        have HM8 := Lib.hid hm8'
        clear hm8'
        have hm9 : (8 : Int) ≤ (m : Int) := by omega
        go_wp2
        simp only [Exit.jump]
        refine HQ.out _ _ ?_ (HF.out.trans H2.out) rfl
        have := H1.out
        rw [HM8.out] at this
        exact this
end Go.Proofs.YtcojfnjpcpochaaDoor.V
end
section
namespace Go.Proofs.YtcojfnjpcpochaaDoor.V
open Go Go.RowKit
attribute [local go_sem] B_size B_append B_extract mk_B B_toList take_drop_len List.length_drop List.length_take sgn32 sgn64 add32 sub32 mul32 add64 sub64 mul64 mul64_8 and32 or32 xor32 and64 or64 xor64 shl32_run shr32_run shl64_run shr64_run not32 not32' xor32_all w_u32_u8 w_u64_u8 w_i64_u8 w_u8_u32 w_u8_u64 w_u32_u64 w_u64_u32 w_u8_u8 w_u32_u32 w_u64_u64
attribute [local go_sem ↓] run_index_B' add32 sub32 mul32 add64 sub64 mul64 mul64_8 and32 or32 xor32 and64 or64 xor64 shl32_run shr32_run shl64_run shr64_run not32 not32' xor32_all w_u32_u8 w_u64_u8 w_i64_u8 w_u8_u32 w_u8_u64 w_u32_u64 w_u64_u32 w_u8_u8 w_u32_u32 w_u64_u64 w_u64_nat w_u32_nat w_u8_nat
set_option maxRecDepth 4000

set_option maxHeartbeats 1000000 in
set_option maxRecDepth 100000 in
theorem mix_ok (g : Nat) (s : St) (blk : List UInt8) (T : TypeId) (w : World) (hg : w.heap[g]? = some (.cells s.cells T (0, 0))) (hT : Tabs w) (hl : 64 ≤ blk.length) :
    Calls Tryd.prog 89 #[.pointer (some ⟨g, 0, none⟩), .string (B blk)] w fun e w' => e = .returned (.tuple #[]) ∧ Fr [g] w w' ∧ w'.heap[g]? = some (.cells (mixed s blk).cells T (0, 0)) := by
  have HG := Lib.hid hg
  clear hg
  have HT := Lib.hid hT
  clear hT
  go_enter Tryd.func89, Tryd.ntmps89
  go_wp2
  refine wp_scope_jumps 0 (mixJ g w.heap.size (w.heap.size + 1) blk (AtJump w g w.heap.size (w.heap.size + 1) T 109 s blk)) (fun a' _ => 64 - (intOf (a'.tmps.getD 9 undef)).toNat) rfl ?_ ?_
  case refine_2 =>
    rintro a' w' ⟨n, hR, hx⟩
    obtain ⟨v2, hx⟩ := hx
    obtain ⟨v3, hx⟩ := hx
    obtain ⟨v5, hx⟩ := hx
    obtain ⟨v6, hx⟩ := hx
    obtain ⟨v7, hx⟩ := hx
    obtain ⟨v10, hx⟩ := hx
    obtain ⟨v11, hx⟩ := hx
    obtain ⟨v12, hx⟩ := hx
    obtain ⟨v13, hx⟩ := hx
    obtain ⟨v14, hx⟩ := hx
    obtain ⟨v15, hx⟩ := hx
    obtain ⟨v16, hx⟩ := hx
    obtain ⟨v17, hx⟩ := hx
    obtain ⟨v18, hx⟩ := hx
    obtain ⟨v19, hx⟩ := hx
    obtain ⟨v20, hx⟩ := hx
    obtain ⟨v21, hx⟩ := hx
    obtain ⟨v22, hx⟩ := hx
    obtain ⟨v23, hx⟩ := hx
    obtain ⟨v24, hx⟩ := hx
    obtain ⟨v25, hx⟩ := hx
    obtain ⟨v26, hx⟩ := hx
    obtain ⟨v27, hx⟩ := hx
    obtain ⟨v28, hx⟩ := hx
    obtain ⟨v29, hx⟩ := hx
    obtain ⟨v30, hx⟩ := hx
    obtain ⟨v31, hx⟩ := hx
    obtain ⟨v32, hx⟩ := hx
    obtain ⟨v33, hx⟩ := hx
    obtain ⟨v34, hx⟩ := hx
    obtain ⟨v35, hx⟩ := hx
    obtain ⟨v36, hx⟩ := hx
    obtain ⟨v37, hx⟩ := hx
    obtain ⟨v38, hx⟩ := hx
    obtain ⟨v39, hx⟩ := hx
    obtain ⟨v40, hx⟩ := hx
    obtain ⟨v41, hx⟩ := hx
    obtain ⟨v42, hx⟩ := hx
    obtain ⟨v43, hx⟩ := hx
    obtain ⟨v44, hx⟩ := hx
    obtain ⟨v45, hx⟩ := hx
    obtain ⟨v46, hx⟩ := hx
    obtain ⟨v47, hx⟩ := hx
    obtain ⟨v48, hx⟩ := hx
    obtain ⟨v49, hx⟩ := hx
    obtain ⟨v50, hx⟩ := hx
    obtain ⟨v51, hx⟩ := hx
    obtain ⟨v52, hx⟩ := hx
    obtain ⟨v53, hx⟩ := hx
    obtain ⟨v54, hx⟩ := hx
    obtain ⟨v55, hx⟩ := hx
    obtain ⟨v56, hx⟩ := hx
    obtain ⟨v57, hx⟩ := hx
    obtain ⟨v58, hx⟩ := hx
    obtain ⟨v59, hx⟩ := hx
    obtain ⟨v60, hx⟩ := hx
    obtain ⟨v61, hx⟩ := hx
    obtain ⟨v62, hx⟩ := hx
    obtain ⟨v63, hx⟩ := hx
    obtain ⟨v64, hx⟩ := hx
    obtain ⟨v65, hx⟩ := hx
    obtain ⟨v66, hx⟩ := hx
    obtain ⟨v67, hx⟩ := hx
    obtain ⟨v68, hx⟩ := hx
    obtain ⟨v69, hx⟩ := hx
    obtain ⟨v70, hx⟩ := hx
    obtain ⟨v71, hx⟩ := hx
    obtain ⟨v72, hx⟩ := hx
    obtain ⟨v73, hx⟩ := hx
    obtain ⟨v74, hx⟩ := hx
    obtain ⟨v75, hx⟩ := hx
    obtain ⟨v76, hx⟩ := hx
    obtain ⟨v77, hx⟩ := hx
    obtain ⟨v78, hx⟩ := hx
    obtain ⟨v79, hx⟩ := hx
    obtain ⟨v80, hx⟩ := hx
    obtain ⟨v81, hx⟩ := hx
    obtain ⟨v82, hx⟩ := hx
    obtain ⟨v83, hx⟩ := hx
    obtain ⟨v84, hx⟩ := hx
    obtain ⟨v85, hx⟩ := hx
    obtain ⟨v86, hx⟩ := hx
    obtain ⟨v87, hx⟩ := hx
    obtain ⟨v88, hx⟩ := hx
    obtain ⟨v89, hx⟩ := hx
    obtain ⟨v90, hx⟩ := hx
    subst hx
    refine wp_mono (mix_pass w g w.heap.size (w.heap.size + 1) T 109 s blk n w' hR (Array.getElem?_eq_some_iff.1 HG.out).1 (bodyPost Tryd.prog Tryd.f89 fun e w' => e = .returned (.tuple #[]) ∧ Fr [g] w w' ∧ w'.heap[g]? = some (.cells (mixed s blk).cells T (0, 0))) _ _ _ _ _ _ _ _ _ _ _ _ _ _ _ _ _ _ _ _ _ _ _ _ _ _ _ _ _ _ _ _ _ _ _ _ _ _ _ _ _ _ _ _ _ _ _ _ _ _ _ _ _ _ _ _ _ _ _ _ _ _ _ _ _ _ _ _ _ _ _ _ _ _ _ _ _ _ _ _ _ _ _ _ _ _ ?hQ) ?hm
    case hQ =>
      intro a1 w1 h1 h2 h3
      exact bodyPost_end (results_none rfl _ _ _) h3 ⟨rfl, h2, h1⟩
    case hm =>
      intro e a1 w1 hq
      cases e with
      | goto l => exact ⟨hq.1, hq.2.1, by simpa [intOf] using hq.2.2⟩
      | _ => exact hq
  go_wp2
  go_loopg [11] 64 (fun k i wr => ∃ n : Nat, n + k = 64 ∧ i = .int .i64 n ∧ Hid (wr.heap[w.heap.size]? = some (.cells (arr64 (sched blk n)) 114 (0, 0))) ∧ Hid (Fr [] w wr) ∧ Hid (wr.heap.size = w.heap.size + 1))
  case atStart =>
    exact ⟨0, rfl, rfl, (show _ from heap_alloc_new w _), (show Fr [] w _ from (Fr.refl [] w).alloc _), (show _ = _ from by simp)⟩
  case round =>
    obtain ⟨n, hn, rfl, H1, H2, H3⟩ := hrel
    have hsl := sched_length blk n
    have HL := Lib.hid hsl
    clear hsl
    have hgw : ∀ (o : Nat), wr.frozen? ⟨w.heap.size, o, none⟩ = false := fun o => frozen_of_row wr _ o _ _ H1.out
    have hn64 : n ≤ 64 := by omega
    have HN := Lib.hid hn
    clear hn
    by_cases h16 : n < 16
    · have hc : wr.cell? ⟨w.heap.size, n, none⟩ = some (wv 0) := by
        refine cell_at H1.out ?_
        simp [arr64, HL.out, List.getElem?_append_right, List.getElem?_replicate]
        omega
      go_wp2_with fail
      refine (word_ok _ _ (by simp; omega)).mono ?_
      rintro e w' ⟨rfl, m, rfl⟩
      go_wp2
      go_roundg (gk - 1)
      case rel =>
        refine ⟨n + 1, by have := HN.out; omega, by simp, (show _ = _ from ?_), (show Fr _ _ _ from Fr.setCell (H2.out.drewN _) (.inr (Nat.le_refl _)) _), (show _ = _ from by simpa using H3.out)⟩
        rw [heap_setCell (w := wr.drewN m) H1.out]
        congr 2
        have := arr64_set (sched blk n) (wordOf (blk.drop (4 * n))) (by rw [HL.out]; omega)
        rw [HL.out] at this
        rw [show sched blk (n + 1) = sched blk n ++ [nxt blk (sched blk n)] from rfl, show nxt blk (sched blk n) = wordOf (blk.drop (4 * n)) by unfold nxt; rw [HL.out, if_pos h16]]
        exact this
      case measure => have := HN.out; omega
    · by_cases hlt : n < 64
      · have e1 : ((n : Int) - 16).toNat = n - 16 := by omega
        have e2 : ((n : Int) - 15).toNat = n - 15 := by omega
        have e3 : ((n : Int) - 7).toNat = n - 7 := by omega
        have e4 : ((n : Int) - 2).toNat = n - 2 := by omega
        have c1 : wr.cell? ⟨w.heap.size, n - 16, none⟩ = some (.int .u32 (U32 (lget (sched blk n) (n - 16)))) := cell_at H1.out (arr64_get _ _ (by rw [HL.out]; omega))
        have c2 : wr.cell? ⟨w.heap.size, n - 15, none⟩ = some (.int .u32 (U32 (lget (sched blk n) (n - 15)))) := cell_at H1.out (arr64_get _ _ (by rw [HL.out]; omega))
        have c3 : wr.cell? ⟨w.heap.size, n - 7, none⟩ = some (.int .u32 (U32 (lget (sched blk n) (n - 7)))) := cell_at H1.out (arr64_get _ _ (by rw [HL.out]; omega))
        have c4 : wr.cell? ⟨w.heap.size, n - 2, none⟩ = some (.int .u32 (U32 (lget (sched blk n) (n - 2)))) := cell_at H1.out (arr64_get _ _ (by rw [HL.out]; omega))
        have hc : wr.cell? ⟨w.heap.size, n, none⟩ = some (wv 0) := by
          refine cell_at H1.out ?_
          simp [arr64, HL.out, List.getElem?_append_right, List.getElem?_replicate]
          omega
        go_wp2
        go_quiet (fail)
        go_wp2
        have s1 : IntKind.i64.wrap ((n : Int) - 16) = (n : Int) - 16 := IntWalk.i64_in _ (by omega)
        have s2 : IntKind.i64.wrap ((n : Int) - 7) = (n : Int) - 7 := IntWalk.i64_in _ (by omega)
        have s3 : (0 : Int) ≤ (n : Int) - 16 := by omega
        have s4 : (n : Int) - 16 < 64 := by omega
        have s5 : (0 : Int) ≤ (n : Int) - 7 := by omega
        have s6 : (n : Int) - 7 < 64 := by omega
        have s7 : (n : Int) < 64 := by omega
        have s8 : (7 : Int) ≤ (n : Int) := by omega
        have s9 : (16 : Int) ≤ (n : Int) := by omega
        refine region_still 29 (by kernel_rfl) (by kernel_rfl) ?_; simp only [List.take_succ_cons, List.take_zero, List.drop_succ_cons, List.drop_zero]; (repeat (first | still_step | (refine wpStill_step (fun K hK => ?_); go_simp; refine ⟨_, still_left (right_ok _ _ _ (by decide) (by decide)), hK _ ?_⟩; clear hK K))); try refine wpStill_nil ?_
        go_wp2
        go_roundg (gk - 1)
        case rel =>
          refine ⟨n + 1, by have := HN.out; omega, by simp, (show _ = _ from ?_), (show Fr _ _ _ from ?_), (show _ = _ from by simpa using H3.out)⟩
          · rw [heap_setCell (w := wr.drewN (nq + 1)) H1.out]
            congr 2
            have := arr64_set (sched blk n) (nxt blk (sched blk n)) (by rw [HL.out]; omega)
            rw [HL.out] at this
            rw [show sched blk (n + 1) = sched blk n ++ [nxt blk (sched blk n)] from rfl, ← this]
            congr 2
            unfold nxt
            rw [HL.out, if_neg h16]
            rfl
          · exact Fr.setCell (H2.out.drewN _) (.inr (Nat.le_refl _)) _
        case measure => have := HN.out; omega
      · obtain rfl : n = 64 := by omega
        have hgs : g < w.heap.size := (Array.getElem?_eq_some_iff.1 HG.out).1
        have hv : wr.heap[g]? = some (.cells s.cells T (0, 0)) := by rw [H2.out.block g hgs (by simp)]; exact HG.out
        obtain ⟨c0, c1, c2, c3, c4, c5, c6, c7, fz⟩ := cells8 hv
        have HGS := Lib.hid hgs
        have HV := Lib.hid hv
        have hx := H3.out
        have HT1 := Lib.hid (HT.out.fr H2.out (by simp) (by simp))
        have hk1 : wr.cell? ⟨1, 0, none⟩ = some (.int .u32 (U32 (lget kTab 0))) := HT1.out.k 0 (by decide)
        have hw1 : wr.cell? ⟨w.heap.size, 0, none⟩ = some (.int .u32 (U32 (lget (sched blk 64) 0))) := cell_at H1.out (arr64_get _ _ (by rw [sched_length]; decide))
        have hk2 : 1 < w.heap.size := HT.out.size.1
        have hk5 : 1 < wr.heap.size := Nat.lt_of_lt_of_le hk2 H2.out.size
        have hk6 : ∀ o : Obj, (wr.alloc o).cell? ⟨1, 0, none⟩ = some (.int .u32 (U32 (lget kTab 0))) := fun o => by rw [World.cell?_alloc_past o _ _ hk5]; exact hk1
        clear hv hgs hgw HN HL hl
        go_wp2
        go_step3
        go_wp2
        refine region_still 7 (by kernel_rfl) (by kernel_rfl) ?_; simp only [List.take_succ_cons, List.take_zero, List.drop_succ_cons, List.drop_zero]; (repeat (first | still_step)); try refine wpStill_nil ?_
        go_wp2_with fail
        refine (round_ok (w.heap.size + 1) s _ 109 _ ?hx1).mono ?_
        case hx1 =>
          show (wr.alloc (.cells s.cells 109)).heap[w.heap.size + 1]? = _
          rw [← hx]
          exact heap_alloc_new wr _
        rintro e w1 ⟨rfl, hf1, hx1⟩
        have HF1 := Lib.hid hf1
        have HX1 := Lib.hid hx1
        have HX := Lib.hid hx
        clear hf1 hx1 hk1 hw1 c0 c1 c2 c3 c4 c5 c6 c7 fz hx
        go_wp2
        go_step3
        have hgs := HGS.out
        have hxs := HX.out
        have HFa : Fr [w.heap.size + 1] wr w1 := (((Fr.refl _ wr).alloc _).drew).trans HF1.out
        refine ⟨rfl, 1, ⟨by decide, ?_, HX1.out, ?_, ?_, ?_, by omega, by omega, by omega, by have := HT.out.size.2; omega, by omega⟩, ?_⟩
        · rw [HFa.block g (by omega) (by simp; omega)]
          exact HV.out
        · rw [HFa.block w.heap.size (by omega) (by simp)]
          exact H1.out
        · exact H2.out.trans' HFa (fun _ h => .inl h) (fun x hx => .inr (by simp at hx; omega))
        · exact HT1.out.fr HFa (by rw [List.mem_singleton]; omega) (by rw [List.mem_singleton]; have := HT.out.size.2; omega)
        · exact ⟨_, _, _, _, _, _, _, _, _, _, _, _, _, _, _, _, _, _, _, _, _, _, _, _, _, _, _, _, _, _, _, _, _, _, _, _, _, _, _, _, _, _, _, _, _, _, _, _, _, _, _, _, _, _, _, _, _, _, _, _, _, _, _, _, _, _, _, _, _, _, _, _, _, _, _, _, _, _, _, _, _, _, _, _, _, _, rfl⟩
end Go.Proofs.YtcojfnjpcpochaaDoor.V
end
section
namespace Go.Proofs.YtcojfnjpcpochaaDoor.V
open Go Go.RowKit
attribute [local go_sem] B_size B_append B_extract mk_B B_toList take_drop_len List.length_drop List.length_take sgn32 sgn64 add32 sub32 mul32 add64 sub64 mul64 mul64_8 and32 or32 xor32 and64 or64 xor64 shl32_run shr32_run shl64_run shr64_run not32 not32' xor32_all w_u32_u8 w_u64_u8 w_i64_u8 w_u8_u32 w_u8_u64 w_u32_u64 w_u64_u32 w_u8_u8 w_u32_u32 w_u64_u64
attribute [local go_sem ↓] run_index_B' add32 sub32 mul32 add64 sub64 mul64 mul64_8 and32 or32 xor32 and64 or64 xor64 shl32_run shr32_run shl64_run shr64_run not32 not32' xor32_all w_u32_u8 w_u64_u8 w_i64_u8 w_u8_u32 w_u8_u64 w_u32_u64 w_u64_u32 w_u8_u8 w_u32_u32 w_u64_u64 w_u64_nat w_u32_nat w_u8_nat
set_option maxRecDepth 4000

theorem u32agg : ∀ w, (isAgg 106).run Tryd.prog w = .ok false w := fun _ => by kernel_rfl
set_option maxHeartbeats 1000000 in
set_option maxRecDepth 100000 in
theorem stateString_ok (s : St) (w : World) :
    Calls Tryd.prog 90 #[.agg s.cells] w fun e w' => e = .returned (.string (B s.text)) ∧ Fr [] w w' := by
  obtain ⟨j, hj, hjs⟩ := Option.map_eq_some_iff.1 u32size
  have hix : ∀ n : Nat, n < 8 → ∀ w, (Instr.index 109 (.agg s.cells) (.int .i64 (n : Int))).run Tryd.prog w = .ok (.int .u32 (U32 (lget s.words n))) w :=
    fun n hn w => run_index_arr w _ 106 8 j Tryd.underlying109 hj hjs u32agg _ _ n _ hn (cells_get s n hn)
  have HIX := Lib.hid hix
  clear hix
  unfold St.cells
  go_enter Tryd.func90, Tryd.ntmps90
  go_wp2
  go_loopg [3, 7] 8 (fun k v i wr => ∃ n : Nat, n + k = 8 ∧ i = .int .i64 n ∧ Hid (obytes wr w.heap.size v ((s.words.take n).flatMap be4)) ∧ Hid (Fr [] w wr))
  case atStart => exact ⟨0, rfl, rfl, (show _ from obytes_nil _ _), (show _ from (Fr.refl [] w).alloc _)⟩
  case round =>
    obtain ⟨n, hn, rfl, H1, H2⟩ := hrel
    have HN := Lib.hid hn
    clear hn
    by_cases h8 : n < 8
    · have h8' : (n : Int) < 8 := by omega
      have hx := HIX.out n h8
      unfold St.cells at hx
      go_wp2_with fail
      refine (lay_ok _ w.heap.size _ _ _ H1.out ?hb ?hbase).mono ?_
      case hb => rw [flat_be4_length]; have : (s.words.take n).length ≤ 8 := (by simp [St.words]; omega); omega
      case hbase => exact H2.out.size
      rintro e w1 ⟨v', rfl, h1, h2, h3⟩
      have H1' := Lib.hid h1
      have H2' := Lib.hid h2
      clear h1 h2 h3 hx
      go_wp2
      go_roundg (gk - 1)
      case rel =>
        refine ⟨n + 1, by have := HN.out; omega, by simp, (show obytes _ _ _ _ from ?_), (show Fr [] w w1 from ?_)⟩
        · rw [take_words s n h8]
          exact H1'.out
        · exact H2.out.trans' H2'.out (fun _ h => by cases h) (fun x hx => .inr (H1.out.lt x (by simpa using hx)).1)
      case measure => have := HN.out; omega
    · have h8' : (8 : Int) ≤ (n : Int) := by omega
      have e8 : n = 8 := by have := HN.out; omega
      have E8 := Lib.hid e8
      clear e8
      have hcv := H1.out.text
      go_wp2
      go_ret
      refine ⟨?_, H2.out⟩
      rw [E8.out]
      rfl

def arr8 (l : List UInt32) : Array Value := (l.map wv ++ List.replicate (8 - l.length) (wv 0)).toArray
end Go.Proofs.YtcojfnjpcpochaaDoor.V
end
