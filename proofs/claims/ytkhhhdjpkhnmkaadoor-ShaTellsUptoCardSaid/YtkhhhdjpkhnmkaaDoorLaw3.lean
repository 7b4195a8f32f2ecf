/- The walks of layer 1's statements: cut, ShaInputs, ShaApart. -/
import Derived.Test.YtkhhhdjpkhnmkaaDoorLaw2
import Derived.Test.YtkhhhdjpkhnmkaaDoorInp
import Derived.Test.YtkhhhdjpkhnmkaaDoorBulk
namespace Go.Proofs.YtkhhhdjpkhnmkaaDoor.V
open Go Go.RowKit
attribute [local go_sem] B_size B_append B_extract mk_B B_toList take_drop_len List.length_drop List.length_take sgn32 sgn64 add32 sub32 mul32 add64 sub64 mul64 mul64_8 and32 or32 xor32 and64 or64 xor64 shl32_run shr32_run shl64_run shr64_run not32 not32' xor32_all w_u32_u8 w_u64_u8 w_i64_u8 w_u8_u32 w_u8_u64 w_u32_u64 w_u64_u32 w_u8_u8 w_u32_u32 w_u64_u64
attribute [local go_sem ↓] run_index_B' add32 sub32 mul32 add64 sub64 mul64 mul64_8 and32 or32 xor32 and64 or64 xor64 shl32_run shr32_run shl64_run shr64_run not32 not32' xor32_all w_u32_u8 w_u64_u8 w_i64_u8 w_u8_u32 w_u8_u64 w_u32_u64 w_u64_u32 w_u8_u8 w_u32_u32 w_u64_u64 w_u64_nat w_u32_nat w_u8_nat

def cutL (ps : List (List UInt8)) : List (List UInt8) := ps.map (·.take 100000)
theorem cutL_length (ps : List (List UInt8)) : (cutL ps).length = ps.length := by simp [cutL]
theorem cutL_take (ps : List (List UInt8)) (n : Nat) (h : n < ps.length) : cutL (ps.take (n + 1)) = cutL (ps.take n) ++ [(sget ps n).take 100000] := by
  rw [List.take_succ_eq_append_getElem h]
  simp only [cutL, List.map_append, List.map_cons, List.map_nil, sget, List.getElem?_eq_getElem h, Option.getD_some]

set_option maxHeartbeats 1000000 in
set_option maxRecDepth 100000 in
theorem cut_ok (v : Value) (ps : List (List UInt8)) (w : World) (hS : Strs w v ps) (hL : ps.length ≤ 8796093022208) (hM : ∀ i, (sget ps i).length ≤ 140737488355328) :
    Calls Tryd.prog 18 #[v] w fun e w' => ∃ v', e = .returned v' ∧ ostrs w' w.heap.size v' (cutL ps) ∧ Fr [] w w' := by
  obtain ⟨a, cap, rfl, hcap, hmx, hc⟩ := hS
  have hpl : (ps.length : Int) ≤ 140737488355328 := by omega
  have hp0 : (0 : Int) ≤ (ps.length : Int) := by omega
  have HC := Lib.hid hc
  have HL := Lib.hid hL
  have HM := Lib.hid hM
  clear hc hL hcap hmx hM
  go_enter Tryd.func18, Tryd.ntmps18
  go_wp2
  go_loopg [3, 4] ps.length (fun k o i wr => ∃ (n : Nat), i = .int .i64 (n : Int) ∧ Hid (n + k = ps.length) ∧ Hid (ostrs wr w.heap.size o (cutL (ps.take n))) ∧ Hid (Fr [] w wr))
  case atStart => exact ⟨0, rfl, (show _ = _ from by omega), (show _ from ostrs_nil _ _), (show _ from Fr.refl _ _)⟩
  case round =>
    obtain ⟨n, rfl, HN, H1, H2⟩ := hrel
    have h0n : (0 : Int) ≤ (n : Int) := by omega
    by_cases hk : gk = 0
    · subst hk
      have e1 : (ps.length : Int) ≤ (n : Int) := by have := HN.out; omega
      have e2 : ps.take n = ps := List.take_of_length_le (by omega)
      have E2 := Lib.hid e2
      clear e2
      go_wp2
      go_ret
      exact ⟨_, rfl, by have := H1.out; rw [E2.out] at this; exact this, H2.out⟩
    · have e1 : (n : Int) < (ps.length : Int) := by have := HN.out; omega
      obtain ⟨b, off, rfl, hb, hx⟩ := HC.out n (by omega)
      have hx' : wr.cell? ⟨b, off + n, none⟩ = some (.string (B (sget ps n))) := by rw [H2.out.cell hb (by simp)]; exact hx
      have hxn := World.new_ne wr _ hx'
      have ew : IntKind.i64.wrap ((n : Int) + 1) = (n : Int) + 1 := by rw [IntKind.wrap_i64]; omega
      have hl0 : (0 : Int) ≤ ((sget ps n).length : Int) := by omega
      have hl1 : ((sget ps n).length : Int) ≤ 140737488355328 := by have := HM.out n; omega
      have HBw := hb
      clear hx hb
      have hmin : (if (100000 : Int) < ((sget ps n).length : Int) then (100000 : Int) else ((sget ps n).length : Int)) = ((min (sget ps n).length 100000 : Nat) : Int) := by split <;> omega
      have hmt : ((min (sget ps n).length 100000 : Nat) : Int).toNat = min (sget ps n).length 100000 := by omega
      have hm0 : (0 : Int) ≤ ((min (sget ps n).length 100000 : Nat) : Int) := by omega
      have hm1 : ((min (sget ps n).length 100000 : Nat) : Int) ≤ ((sget ps n).length : Int) := by omega
      have htk : List.take (min (sget ps n).length 100000) (sget ps n) = (sget ps n).take 100000 := by
        rw [Nat.min_comm, ← List.take_take, List.take_length]
      generalize min (sget ps n).length 100000 = mm at *
      go_wp2
      have hown2 : ostrs ((wr.alloc (.cells #[.string (B ((sget ps n).take 100000))] 9)).drew) w.heap.size u3 (cutL (ps.take n)) := H1.out.kept (S := []) ((Fr.refl [] wr).alloc _).drew (by simp)
      have hsrc2 : Src Tryd.prog 1 33 (.slice (some ⟨wr.heap.size, 0, none⟩) 1 1) 1 (svs [(sget ps n).take 100000]) ((wr.alloc (.cells #[.string (B ((sget ps n).take 100000))] 9)).drew) :=
        Src.new' wr 33 9 Tryd.underlying33 #[_] _ (svs_one [(sget ps n).take 100000])
      have hb2 : (cutL (ps.take n)).length + [(sget ps n).take 100000].length ≤ 8796093022208 := by rw [cutL_length, List.length_take]; have := HL.out; have := HN.out; simp; omega
      have hbase2 : w.heap.size ≤ ((wr.alloc (.cells #[.string (B ((sget ps n).take 100000))] 9)).drew).heap.size := by have := H2.out.size; simp; omega
      have HO := Lib.hid hown2
      have HSr := Lib.hid hsrc2
      have HBs := Lib.hid hbase2
      have HBb := Lib.hid hb2
      clear hown2 hsrc2 hbase2 hb2
      have hwr := H2.out.size
      have HNe : some b ≠ u3.ownBlock := by intro h; have h3 := (H1.out.lt _ h.symm).1; omega
      have HBlt : b < ((wr.alloc (.cells #[.string (B ((sget ps n).take 100000))] 9)).drew).heap.size := by simp; omega
      have hall : ((wr.alloc (.cells #[.string (B ((sget ps n).take 100000))] 9)).drew).cell? ⟨b, off + n, none⟩ = some (.string (B (sget ps n))) := by
        rw [(((Fr.refl [] wr).alloc (.cells #[.string (B ((sget ps n).take 100000))] 9)).drew).cell (by omega) (by simp)]
        exact hx'
      go_region_held3 (fun w' => w'.cell? ⟨b, off + n, none⟩ = some (.string (B (sget ps n)))) (first | go_keep | (exact (World.cell?_of_block (hg1.block b HBlt HNe)).trans hall))
        ((refine step_ap_strs (by rfl) _ _ _ (by rfl) w.heap.size u3 (cutL (ps.take n)) (by rfl) HO.out _ [(sget ps n).take 100000] 1 (by rfl) HSr.out HBb.out HBs.out ?_; intro v1 w1 h1 hg1 ho1))
      have H1' := Lib.hid h1
      have H2' : Hid (Fr [] w w1) := (((H2.out.alloc _).drew).trans' (Fr.of_grown hg1) (fun _ h => .inl h) (fun x hx => .inr (H1.out.lt x (by simpa using hx)).1))
      clear h1 hg1 ho1 HO HSr HBs HBb hall HBlt
      go_wp2
      go_roundg (gk - 1)
      case rel =>
        refine ⟨n + 1, rfl, (show _ = _ from by have := HN.out; omega), (show ostrs _ _ _ _ from ?_), H2'⟩
        rw [cutL_take ps n (by have := HN.out; omega)]
        exact H1'.out
      case measure => omega

theorem bulkL_append (a b : List (List UInt8)) : bulkL (a ++ b) = bulkL a + bulkL b := by simp [bulkL]
theorem bulkL_cut (ps : List (List UInt8)) : bulkL (cutL ps) ≤ bulkL ps := by
  induction ps with
  | nil => exact Nat.le_refl _
  | cons p ps ih =>
    rw [show cutL (p :: ps) = p.take 100000 :: cutL ps from rfl, bulkL_cons, bulkL_cons, List.length_take]
    omega
theorem bulkL_length (ps : List (List UInt8)) : ps.length ≤ bulkL ps := by
  induction ps with
  | nil => exact Nat.le_refl _
  | cons p ps ih => rw [bulkL_cons, List.length_cons]; omega
theorem bulkL_get (ps : List (List UInt8)) (i : Nat) : (sget ps i).length ≤ bulkL ps := by
  induction ps generalizing i with
  | nil => simp [sget]
  | cons p ps ih =>
    rw [bulkL_cons]
    cases i with
    | zero => simp [sget]; omega
    | succ i => have := ih i; simp only [sget, List.getElem?_cons_succ] at this ⊢; omega
theorem input_bulk (d : UInt8) (ps : List (List UInt8)) : (input d ps).length ≤ 1 + 4 * bulkL ps := by
  induction ps with
  | nil => simp [input]
  | cons p ps ih =>
    simp only [input, List.flatMap_cons, List.length_cons, List.length_append, be4_len, bulkL_cons] at ih ⊢
    omega
theorem input_append (d : UInt8) (a b : List (List UInt8)) : input d (a ++ b) = input d a ++ (input d b).drop 1 := by simp [input]

set_option maxHeartbeats 1000000 in
set_option maxRecDepth 100000 in
theorem shaInputs_ok (d : UInt8) (v1 : Value) (ps : List (List UInt8)) (v2 : Value) (qs : List (List UInt8)) (w : World) (hT : Tabs w) (h1 : Strs w v1 ps) (h2 : Strs w v2 qs) (b1 : bulkL ps ≤ 1048576) (b2 : bulkL qs ≤ 1048576) :
    Calls Tryd.prog 8 #[.int .u8 (U8 d), v1, v2] w fun e w' => e = .returned (.bool true) ∧ Fr [] w w' := by
  have HT := Lib.hid hT
  have HP := Lib.hid h1
  have HQ := Lib.hid h2
  have hA1 : bulkL (cutL ps) ≤ 1048576 := Nat.le_trans (bulkL_cut ps) b1
  have hB1 : bulkL (cutL qs) ≤ 1048576 := Nat.le_trans (bulkL_cut qs) b2
  obtain ⟨g1, c1, rfl, -⟩ := h1
  obtain ⟨g2, c2, rfl, -⟩ := h2
  have HB1 := Lib.hid b1
  have HB2 := Lib.hid b2
  clear hT b1 b2
  go_enter Tryd.func8, Tryd.ntmps8
  go_wp2_with fail
  refine (awake_ok _ HT.out).mono ?_
  rintro e w1 ⟨rfl, hf1⟩
  have HF1 := Lib.hid hf1
  clear hf1
  go_wp2_with fail
  refine (cut_ok _ ps _ (HP.out.kept HF1.out) (by have := bulkL_length ps; have := HB1.out; omega) (fun i => by have := bulkL_get ps i; have := HB1.out; omega)).mono ?_
  rintro e w2 ⟨va, rfl, ha, hf2⟩
  have HF2 : Hid (Fr [] w w2) := HF1.out.trans hf2
  have HA : Hid (Strs w2 va (cutL ps)) := ha.strs
  obtain ⟨ga, ca, rfl, -⟩ := ha.strs
  clear hf2 ha
  go_wp2_with fail
  refine (cut_ok _ qs _ (HQ.out.kept HF2.out) (by have := bulkL_length qs; have := HB2.out; omega) (fun i => by have := bulkL_get qs i; have := HB2.out; omega)).mono ?_
  rintro e w3 ⟨vb, rfl, hb, hf3⟩
  have HF3 : Hid (Fr [] w w3) := HF2.out.trans hf3
  have HA3 : Hid (Strs w3 _ (cutL ps)) := HA.out.kept hf3
  have HQ3 : Hid (Strs w3 vb (cutL qs)) := hb.strs
  obtain ⟨gb, cb, rfl, -⟩ := hb.strs
  clear hf3 hb HA HP HQ HB1 HB2 HF1 HF2
  generalize cutL ps = A at *
  generalize cutL qs = D at *
  have hAi := input_bulk d A
  have hDi := input_bulk d D
  have hAl := bulkL_length A
  have hDl := bulkL_length D
  have hb2 : A.length + D.length ≤ 8796093022208 := by omega
  go_wp2_with fail
  refine (input_ok d _ A _ HA3.out (by omega)).mono ?_
  rintro e w4 ⟨rfl, hf4⟩
  have HF4 : Hid (Fr [] w w4) := HF3.out.trans hf4
  have HA4 : Hid (Strs w4 _ A) := HA3.out.kept hf4
  have HD4 : Hid (Strs w4 _ D) := HQ3.out.kept hf4
  clear hf4 HA3 HQ3 HF3
  go_wp2_with fail
  refine (input_ok d _ D _ HD4.out (by omega)).mono ?_
  rintro e w5 ⟨rfl, hf5⟩
  have HF5 : Hid (Fr [] w w5) := HF4.out.trans hf5
  have HA5 : Hid (Strs w5 _ A) := HA4.out.kept hf5
  have HD5 : Hid (Strs w5 _ D) := HD4.out.kept hf5
  clear hf5 HA4 HD4 HF4
  go_wp2_with (at_builtin; refine wpList_ap_strs rfl _ _ _ rfl w5.heap.size _ [] rfl (ostrs_nil _ _) _ A A.length rfl ?src ?hb ?hbase ?_)
  case src => exact HA5.out.src
  case hb => simp; omega
  case hbase => exact Nat.le_refl _
  intro v6 w6 h6 hg6 ho6
  have hF6 : Fr [] w5 w6 := (Fr.refl [] w5).grown hg6 (fun k hk => by simp [Value.ownBlock] at hk)
  have HO6 := Lib.hid h6
  have HF6 := Lib.hid hF6
  clear h6 hg6 ho6 hF6
  go_wp2_with (at_builtin; refine wpList_ap_strs rfl _ _ _ rfl w5.heap.size v6 A rfl HO6.out _ D D.length rfl ?src hb2 ?hbase ?_)
  case src => exact (HD5.out.kept HF6.out).src
  case hbase => exact HF6.out.size
  intro v7 w7 h7 hg7 ho7
  have hF7 : Fr [] w5 w7 := HF6.out.grown hg7 (fun k hk => .inr (HO6.out.lt k hk).1)
  have HS7 : Hid (Strs w7 v7 (A ++ D)) := h7.strs
  have HF7 := Lib.hid hF7
  clear h7 hg7 ho7 hF7
  go_wp2_with fail
  refine (input_ok d _ (A ++ D) _ HS7.out ?hL).mono ?_
  case hL => have := input_bulk d (A ++ D); rw [bulkL_append] at this; omega
  rintro e w8 ⟨rfl, hf8⟩
  have HF8 : Hid (Fr [] w w8) := HF5.out.trans (HF7.out.trans hf8)
  have HA8 : Hid (Strs w8 _ A) := HA5.out.kept (HF7.out.trans hf8)
  clear hf8 HF7 HS7 HO6 HF6 HD5 HA5 HF5
  obtain ⟨ga', ca', hv, -, -, hcell⟩ := HA8.out
  obtain ⟨rfl, -, rfl⟩ : ga = ga' ∧ A.length = A.length ∧ ca = ca' := by injection hv with e1 e2 e3; exact ⟨e1, e2, e3⟩
  have HC := Lib.hid hcell
  have happ := input_append d A D
  have hAi0 : 0 < (input d A).length := by simp [input]
  have hDi0 : 0 < (input d D).length := by simp [input]
  have hfst : nth (input d A) 0 = d := rfl
  have hle : Hid (∀ n, (input d (A.take n)).length ≤ (input d A).length) := fun n => input_le d A n
  have hstep : Hid (∀ n, n < A.length → (input d (A.take (n + 1))).length = (input d (A.take n)).length + 4 + (sget A n).length) := fun n hn => by
    rw [input_take d A n hn]; simp only [List.length_append, be4_len]
  have hall : Hid ((input d (A.take A.length)).length = (input d A).length) := by rw [List.take_length]; exact rfl
  have h0 : Hid ((input d (A.take 0)).length = 1) := rfl
  have q4 : (input d (A ++ D) == input d A ++ List.drop 1 (input d D)) = true := by rw [happ]; simp
  have q5 : (input d (A ++ D) == input d A ++ List.take ((input d D).length - 1) (input d D).tail) = true := by rw [happ, List.take_of_length_le (by simp), List.drop_one]; simp
  have Q4 := Lib.hid q5
  clear q5 q4
  generalize input d (A ++ D) = z at *
  generalize hX : input d A = x at *
  generalize input d D = y at *
  have hxl : x.length ≤ 4194305 := by omega
  have hyl : y.length ≤ 4194305 := by omega
  have hx1 : (0 : Int) < (x.length : Int) := by omega
  have hy1 : (1 : Int) ≤ (y.length : Int) := by omega
  have hsum : ¬ (9223372036854775807 < x.length + (y.length - 1)) := by omega
  have hAL : (A.length : Int) ≤ 1048576 := by omega
  clear hv hcell happ HA8 hAi hDi hX hA1 hB1 hAl hDl hb2
  go_wp2_with fail
  go_loopg [13, 14] A.length (fun k l i wr => ∃ (n m : Nat), i = .int .i64 (n : Int) ∧ l = .int .i64 (m : Int) ∧ Hid (n + k = A.length ∧ m = (input d (A.take n)).length) ∧ Hid (Fr [] w8 wr))
  case atStart => exact ⟨0, 1, rfl, rfl, ⟨by omega, h0.out.symm⟩, (show _ from Fr.refl _ _)⟩
  case round =>
    obtain ⟨n, m, rfl, rfl, HN, H1⟩ := hrel
    have h0n : (0 : Int) ≤ (n : Int) := by omega
    have h0m : (0 : Int) ≤ (m : Int) := by omega
    by_cases hk : gk = 0
    · subst hk
      have e1 : (A.length : Int) ≤ (n : Int) := by have := HN.out.1; omega
      have e2 : m = x.length := by rw [HN.out.2, show n = A.length by have := HN.out.1; omega]; exact hall.out
      have q1 : ((x.length : Int) == (m : Int)) = true := by rw [e2]; simp
      clear e2
      go_wp2
      go_ret
      exact ⟨congrArg (fun b => Ending.returned (Value.bool b)) Q4.out, HF8.out.trans H1.out⟩
    · have e1 : (n : Int) < (A.length : Int) := by have := HN.out.1; omega
      obtain ⟨b, off, rfl, hb, hx⟩ := HC.out n (by omega)
      have hx' : wr.cell? ⟨b, off + n, none⟩ = some (.string (B (sget A n))) := by rw [H1.out.cell hb (by simp)]; exact hx
      have hst := hstep.out n (by omega)
      have hbd := hle.out (n + 1)
      rw [← HN.out.2] at hst
      have ew : IntKind.i64.wrap ((n : Int) + 1) = (n : Int) + 1 := by rw [IntKind.wrap_i64]; omega
      have hm1 : (m : Int) + 4 + ((sget A n).length : Int) ≤ 4194305 := by omega
      have ew2 : IntKind.i64.wrap ((m : Int) + 4) = (m : Int) + 4 := by rw [IntKind.wrap_i64]; omega
      have ew3 : IntKind.i64.wrap ((m : Int) + 4 + ((sget A n).length : Int)) = (m : Int) + 4 + ((sget A n).length : Int) := by rw [IntKind.wrap_i64]; omega
      have HST := Lib.hid hst
      clear hx hb hst hbd
      go_wp2
      go_roundg (gk - 1)
      case rel => exact ⟨n + 1, m + 4 + (sget A n).length, rfl, rfl, ⟨by have := HN.out.1; omega, HST.out.symm⟩, H1⟩
      case measure => omega

theorem be4_inj {x y : UInt32} (h : be4 x = be4 y) : x = y := by
  have h1 := word_be4 x []
  rw [h, word_be4] at h1
  exact h1.symm
/-- unlike domains or parts give unlike texts -/
theorem flat_inj : ∀ (a b : List (List UInt8)), (∀ p ∈ a, p.length < 4294967296) → (∀ p ∈ b, p.length < 4294967296) →
    (a.flatMap fun p => be4 (UInt32.ofNat p.length) ++ p) = (b.flatMap fun p => be4 (UInt32.ofNat p.length) ++ p) → a = b
  | [], [], _, _, _ => rfl
  | [], q :: b, _, _, h => by
    have := congrArg List.length h
    simp [be4_len] at this <;> omega
  | p :: a, [], _, _, h => by
    have := congrArg List.length h
    simp [be4_len] at this <;> omega
  | p :: a, q :: b, ha, hb, h => by
    simp only [List.flatMap_cons, List.append_assoc] at h
    obtain ⟨h1, h2⟩ := List.append_inj h rfl
    have h3 := congrArg UInt32.toNat (be4_inj h1)
    have hp := ha p (by simp)
    have hq := hb q (by simp)
    simp only [UInt32.toNat_ofNat'] at h3
    have hl : p.length = q.length := by omega
    obtain ⟨h4, h5⟩ := List.append_inj h2 hl
    rw [h4, flat_inj a b (fun x hx => ha x (by simp [hx])) (fun x hx => hb x (by simp [hx])) h5]
theorem input_inj {d e : UInt8} {a b : List (List UInt8)} (ha : ∀ p ∈ a, p.length < 4294967296) (hb : ∀ p ∈ b, p.length < 4294967296) : input d a = input e b ↔ d = e ∧ a = b := by
  constructor
  · intro h
    simp only [input, List.cons.injEq] at h
    exact ⟨h.1, flat_inj a b ha hb h.2⟩
  · rintro ⟨rfl, rfl⟩
    rfl
theorem cutL_small (ps : List (List UInt8)) : ∀ p ∈ cutL ps, p.length < 4294967296 := by
  intro p hp
  obtain ⟨q, _, rfl⟩ := List.mem_map.1 hp
  rw [List.length_take]
  omega
theorem take_same {a b : List (List UInt8)} (n : Nat) (ha : n < a.length) (hb : n < b.length) : a.take (n + 1) = b.take (n + 1) ↔ a.take n = b.take n ∧ sget a n = sget b n := by
  rw [List.take_succ_eq_append_getElem ha, List.take_succ_eq_append_getElem hb]
  constructor
  · intro h
    obtain ⟨h1, h2⟩ := List.append_inj h (by rw [List.length_take, List.length_take]; omega)
    refine ⟨h1, ?_⟩
    simp only [List.cons.injEq, and_true] at h2
    simp [sget, ha, hb, h2]
  · rintro ⟨h1, h2⟩
    rw [h1]
    simp [sget, ha, hb] at h2
    rw [h2]
end Go.Proofs.YtkhhhdjpkhnmkaaDoor.V
