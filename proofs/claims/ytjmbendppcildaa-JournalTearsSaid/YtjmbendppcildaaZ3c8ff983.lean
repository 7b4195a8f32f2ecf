import Derived.Test.YtjmbendppcildaaZe84af394
section
/- Layer 12's disk, whole: made, written, synced, crashed. -/
namespace Go.Proofs.Ytjmbendppcildaa.E
open Go Go.RowKit Go.Proofs.Ytjmbendppcildaa.V
attribute [local go_sem] B_size B_append B_extract mk_B B_toList take_drop_len List.length_drop List.length_take sgn32 sgn64 add32 sub32 mul32 add64 sub64 mul64 mul64_8 and32 or32 xor32 and64 or64 xor64 shl32_run shr32_run shl64_run shr64_run not32 not32' xor32_all w_u32_u8 w_u64_u8 w_i64_u8 w_u8_u32 w_u8_u64 w_u32_u64 w_u64_u32 w_u8_u8 w_u32_u32 w_u64_u64
attribute [local go_sem ↓] run_index_B' add32 sub32 mul32 add64 sub64 mul64 mul64_8 and32 or32 xor32 and64 or64 xor64 shl32_run shr32_run shl64_run shr64_run not32 not32' xor32_all w_u32_u8 w_u64_u8 w_i64_u8 w_u8_u32 w_u8_u64 w_u32_u64 w_u64_u32 w_u8_u8 w_u32_u32 w_u64_u64 w_u64_nat w_u32_nat w_u8_nat
--NRM pend_ren
structure Wf (d : Dk) : Prop where
  l0 : d.l0.length = 256
  l1 : d.l1.length = 256
  p0 : ∀ s, d.p0 = some s → s.length = 256
  p1 : ∀ s, d.p1 = some s → s.length = 256
  left : 0 ≤ d.left ∧ d.left ≤ 9223372036854775807
def st0 (n : Nat) (d : Dk) : Dk := match d.p0 with | none => d | some s => ⟨s.take n ++ d.l0.drop n, d.l1, none, d.p1, d.left, d.dead⟩
def st1 (n : Nat) (d : Dk) : Dk := match d.p1 with | none => d | some s => ⟨d.l0, s.take n ++ d.l1.drop n, d.p0, none, d.left, d.dead⟩
theorem Wf.st0 {d : Dk} (h : Wf d) (n : Nat) (hn : n ≤ 256) : Wf (st0 n d) := by
  obtain ⟨l0, l1, p0, p1, lf, dd⟩ := d
  cases p0 with
  | none => exact h
  | some s =>
    have h1 := h.p0 s rfl
    have h2 : l0.length = 256 := h.l0
    exact ⟨by show (s.take n ++ l0.drop n).length = 256; rw [List.length_append, List.length_take, List.length_drop]; omega, h.l1, (fun s hs => by cases hs), h.p1, h.left⟩
theorem Wf.st1 {d : Dk} (h : Wf d) (n : Nat) (hn : n ≤ 256) : Wf (st1 n d) := by
  obtain ⟨l0, l1, p0, p1, lf, dd⟩ := d
  cases p1 with
  | none => exact h
  | some s =>
    have h1 := h.p1 s rfl
    have h2 : l1.length = 256 := h.l1
    exact ⟨h.l0, by show (s.take n ++ l1.drop n).length = 256; rw [List.length_append, List.length_take, List.length_drop]; omega, h.p0, (fun s hs => by cases hs), h.left⟩
theorem Wf.act {d : Dk} (h : Wf d) : Wf (actD d) := by
  unfold actD
  have := h.left
  split
  · exact ⟨h.l0, h.l1, h.p0, h.p1, by show 0 ≤ d.left - 1 ∧ d.left - 1 ≤ _; omega⟩
  · exact h
/-- something written, not yet lasting -/
def wrD (k : Nat) (s : List UInt8) (d : Dk) : Dk := match k with | 0 => { d with p0 := some s } | _ => { d with p1 := some s }
theorem Wf.wr {d : Dk} (h : Wf d) (k : Nat) (s : List UInt8) (hs : s.length = 256) : Wf (wrD k s d) := by
  match k with
  | 0 => exact ⟨h.l0, h.l1, (fun t ht => by cases ht; exact hs), h.p1, h.left⟩
  | _ + 1 => exact ⟨h.l0, h.l1, h.p0, (fun t ht => by cases ht; exact hs), h.left⟩
section
variable {G : List (Nat × Array Value)}
theorem stays0_fc (d : Dk) (hw : Wf d) (n : Nat) (hn : n ≤ 256) : FC Try.prog G 27 [.ptr 0 0, .v (.int .i64 (n : Int))] (dkH d) (.tup []) (dkH (st0 n d)) := by
  obtain ⟨l0, l1, p0, p1, lf, dd⟩ := d
  cases p0 with
  | none => exact stays0N_fc l0 l1 p1 lf dd n
  | some s =>
    have h1 := hw.p0 s rfl
    have h2 : l0.length = 256 := hw.l0
    exact stays0S_fc l0 l1 p1 lf dd s n (by omega) (by omega) (by omega) (by omega)
theorem stays1_fc (d : Dk) (hw : Wf d) (n : Nat) (hn : n ≤ 256) : FC Try.prog G 27 [.ptr 0 2, .v (.int .i64 (n : Int))] (dkH d) (.tup []) (dkH (st1 n d)) := by
  obtain ⟨l0, l1, p0, p1, lf, dd⟩ := d
  cases p1 with
  | none => exact stays1N_fc l0 l1 p0 lf dd n
  | some s =>
    have h1 := hw.p1 s rfl
    have h2 : l1.length = 256 := hw.l1
    exact stays1S_fc l0 l1 p0 lf dd s n (by omega) (by omega) (by omega) (by omega)
theorem write1_fc (d : Dk) (s : List UInt8) (hs' : s.length = 256) (hl : 0 ≤ d.left ∧ d.left ≤ 9223372036854775807) : FC Try.prog G 20 [.ptr 0 0, .v (.int .i64 1), sA s] (dkH d)
    (.v (.int .i64 (if d.dead then 120 else errS (actD { d with p1 := some s })))) (dkH (if d.dead then d else actD { d with p1 := some s })) := by
  have ha := dkActs_fc (G := G) { d with p1 := some s } hl
  have hst := dkState_fc (G := G) (actD { d with p1 := some s })
  refine FC.of_wp [6] Try.func20 rfl rfl rfl rfl ⟨rfl, trivial, trivial, trivial⟩ ⟨dk_bel _ _, trivial⟩ (by exact Nat.le_of_ble_eq_true rfl) ?_
  intro A hG hnA hAB
  unfold start
  refine WP.rs hG ?_
  refine Ch.pu gdN (by exact ⟨rfl, trivial⟩) (OpS.boxS) (by first | exact trivial | exact ⟨rfl, trivial⟩) rfl ?_
  refine Ch.pu gdN (by exact ⟨rfl, trivial⟩) (OpS.assign) (by first | exact trivial | exact ⟨rfl, trivial⟩) rfl ?_
  refine Ch.nil ?_
  refine WP.rs hG ?_
  refine Ch.pu gdN (by exact ⟨rfl, trivial⟩) (OpS.move) (by first | exact trivial | exact ⟨rfl, trivial⟩) rfl ?_
  refine Ch.pu gdN (by exact ⟨rfl, trivial⟩) (OpS.move) (by first | exact trivial | exact ⟨rfl, trivial⟩) rfl ?_
  refine Ch.callH (FC.split (at1_fc d)) [0] 1 gdN (by repeat (first | exact EvL.nil | (apply EvL.cons; exact rfl))) (by exact (And.intro (by first | exact .rfl _ | exact .untip _ _ _ | exact .nil | exact .func _ | exact AV.wk.sh (renL_s _ _) | exact AV.wk.tip rfl (by first | exact renL_b _ _ | exact renL_s _ _ | exact renL_i _ _ | exact renL_w _ _) | exact AV.wk.sh (by simp; first | done | fail)) (And.intro (by first | exact .rfl _ | exact .untip _ _ _ | exact .nil | exact .func _ | exact AV.wk.sh (renL_s _ _) | exact AV.wk.tip rfl (by first | exact renL_b _ _ | exact renL_s _ _ | exact renL_i _ _ | exact renL_w _ _) | exact AV.wk.sh (by simp; first | done | fail)) trivial))) rfl rfl (by decide) (by decide) (by first | ((conv => lhs; simp only [AV.ren, AV.renL, AO.ren, renL_b, renL_s, renL_w, renL_i, renL_append, ren_b, ren_s, ren_w, ren_i, pi_n, pi_0, pi_s, pi_1, pi_2, pi_3, pi_4, chOld, chNew, nuNew, hpl, Option.map_some, Option.map_none, List.length_cons, List.length_nil, List.take_succ_cons, List.take_zero, List.take_nil, List.drop_succ_cons, List.drop_zero, List.drop_nil, List.cons_append, List.nil_append, Nat.zero_add, Nat.add_zero, Nat.reduceAdd, pend_ren]); all_goals rfl) | rfl) (by first | ((conv => lhs; simp only [AV.ren, AV.renL, AO.ren, renL_b, renL_s, renL_w, renL_i, renL_append, ren_b, ren_s, ren_w, ren_i, pi_n, pi_0, pi_s, pi_1, pi_2, pi_3, pi_4, chOld, chNew, nuNew, hpl, Option.map_some, Option.map_none, List.length_cons, List.length_nil, List.take_succ_cons, List.take_zero, List.take_nil, List.drop_succ_cons, List.drop_zero, List.drop_nil, List.cons_append, List.nil_append, Nat.zero_add, Nat.add_zero, Nat.reduceAdd, pend_ren]); all_goals rfl) | rfl) (by first | ((conv => lhs; simp only [AV.ren, AV.renL, AO.ren, renL_b, renL_s, renL_w, renL_i, renL_append, ren_b, ren_s, ren_w, ren_i, pi_n, pi_0, pi_s, pi_1, pi_2, pi_3, pi_4, chOld, chNew, nuNew, hpl, Option.map_some, Option.map_none, List.length_cons, List.length_nil, List.take_succ_cons, List.take_zero, List.take_nil, List.drop_succ_cons, List.drop_zero, List.drop_nil, List.cons_append, List.nil_append, Nat.zero_add, Nat.add_zero, Nat.reduceAdd, pend_ren]); all_goals rfl) | rfl) (by first | ((conv => lhs; simp only [AV.ren, AV.renL, AO.ren, renL_b, renL_s, renL_w, renL_i, renL_append, ren_b, ren_s, ren_w, ren_i, pi_n, pi_0, pi_s, pi_1, pi_2, pi_3, pi_4, chOld, chNew, nuNew, hpl, Option.map_some, Option.map_none, List.length_cons, List.length_nil, List.take_succ_cons, List.take_zero, List.take_nil, List.drop_succ_cons, List.drop_zero, List.drop_nil, List.cons_append, List.nil_append, Nat.zero_add, Nat.add_zero, Nat.reduceAdd, pend_ren]); all_goals rfl) | rfl) (by first | exact trivial | exact ⟨rfl, trivial⟩ | exact ⟨rfl, rfl, trivial⟩ | exact ⟨rfl, rfl, rfl, trivial⟩ | exact ⟨rfl, rfl, rfl, rfl, trivial⟩) (by first | exact trivial | exact ⟨rfl, trivial⟩ | exact ⟨rfl, rfl, trivial⟩ | exact ⟨rfl, rfl, rfl, trivial⟩ | exact ⟨rfl, rfl, rfl, rfl, trivial⟩) rfl ?_
  refine Ch.pu gdN (by exact ⟨rfl, trivial⟩) (OpS.assign) (by first | exact trivial | exact ⟨rfl, trivial⟩) rfl ?_
  refine Ch.nil ?_
  refine WP.seq ?_
  refine WP.block ?_
  refine WP.rs hG ?_
  first | (refine Ch.pu gdN (by exact ⟨rfl, trivial⟩) (OpS.eqNil (.p _ _) rfl) (by first | exact trivial | exact ⟨rfl, trivial⟩) rfl ?_; trace "@S 609dd676fb_1 0") | (refine Ch.pu gdN (by exact ⟨rfl, trivial⟩) (OpS.move) (by first | exact trivial | exact ⟨rfl, trivial⟩) rfl ?_; trace "@S 609dd676fb_1 1")
  first | (refine Ch.pu gdN (by exact ⟨rfl, rfl, trivial⟩) (OpS.eqNil (.p _ _) rfl) (by first | exact trivial | exact ⟨rfl, trivial⟩) rfl ?_; trace "@S 5f6f6a6b1e_1 0") | (refine Ch.pu gdN (by exact ⟨rfl, rfl, trivial⟩) (OpS.int (v' := .bool false) rfl (by rw [hs']; rfl)) (by first | exact trivial | exact ⟨rfl, trivial⟩) rfl ?_; trace "@S 5f6f6a6b1e_1 1") | (refine Ch.pu gdN (by exact ⟨rfl, rfl, trivial⟩) (OpS.int rfl (by first | exact wr64 (by omega) | exact rfl)) (by first | exact trivial | exact ⟨rfl, trivial⟩) rfl ?_; trace "@S 5f6f6a6b1e_1 2") | (refine Ch.pu gdN (by exact ⟨rfl, rfl, trivial⟩) (OpS.strEql) (by first | exact trivial | exact ⟨rfl, trivial⟩) rfl ?_; trace "@S 5f6f6a6b1e_1 3") | (refine Ch.pu gdN (by exact ⟨rfl, rfl, trivial⟩) (OpS.boolEql rfl) (by first | exact trivial | exact ⟨rfl, trivial⟩) rfl ?_; trace "@S 5f6f6a6b1e_1 4") | (refine Ch.pu gdN (by exact ⟨rfl, rfl, trivial⟩) (OpS.binR rfl (by intro w; go_simp; with_reducible rfl)) (by first | exact trivial | exact ⟨rfl, trivial⟩) rfl ?_; trace "@S 5f6f6a6b1e_1 5")
  first | (refine Ch.pu gdN (by exact ⟨rfl, trivial⟩) (OpS.eqNil (.p _ _) rfl) (by first | exact trivial | exact ⟨rfl, trivial⟩) rfl ?_; trace "@S 609dd676fb_2 0") | (refine Ch.pu gdN (by exact ⟨rfl, trivial⟩) (OpS.move) (by first | exact trivial | exact ⟨rfl, trivial⟩) rfl ?_; trace "@S 609dd676fb_2 1")
  first | (refine Ch.skU (gdF rfl rfl rfl) rfl ?_; trace "@S 56116f5039_1 0") | (refine Ch.skU (gdU rfl rfl) rfl ?_; trace "@S 56116f5039_1 1") | (refine Ch.pu (by exact gdT rfl rfl) (by exact ⟨rfl, trivial⟩) (OpS.eqNil (.p _ _) rfl) (by first | exact trivial | exact ⟨rfl, trivial⟩) rfl ?_; trace "@S 56116f5039_1 2") | (refine Ch.pu (by exact gdT rfl rfl) (by exact ⟨rfl, trivial⟩) (OpS.loadS rfl rfl) (by first | exact trivial | exact ⟨rfl, trivial⟩) rfl ?_; trace "@S 56116f5039_1 3") | (refine Ch.pu (by exact gdT rfl rfl) (by exact ⟨rfl, trivial⟩) (OpS.loadP rfl rfl rfl) (by first | exact trivial | exact ⟨rfl, trivial⟩) rfl ?_; trace "@S 56116f5039_1 4")
  first | (refine Ch.skU (gdF rfl rfl rfl) rfl ?_; trace "@S cefb96f2a3_1 0") | (refine Ch.skU (gdU rfl rfl) rfl ?_; trace "@S cefb96f2a3_1 1") | (refine Ch.pu (by exact gdT rfl rfl) (by exact ⟨rfl, trivial⟩) (OpS.eqNil (.p _ _) rfl) (by first | exact trivial | exact ⟨rfl, trivial⟩) rfl ?_; trace "@S cefb96f2a3_1 2") | (refine Ch.pu (by exact gdT rfl rfl) (by exact ⟨rfl, trivial⟩) (OpS.lenS rfl) (by first | exact trivial | exact ⟨rfl, trivial⟩) rfl ?_; trace "@S cefb96f2a3_1 3") | (refine Ch.pu (by exact gdT rfl rfl) (by exact ⟨rfl, trivial⟩) (OpS.len rfl) (by first | exact trivial | exact ⟨rfl, trivial⟩) rfl ?_; trace "@S cefb96f2a3_1 4") | (refine Ch.pu (by exact gdT rfl rfl) (by exact ⟨rfl, trivial⟩) (OpS.lenA rfl) (by first | exact trivial | exact ⟨rfl, trivial⟩) rfl ?_; trace "@S cefb96f2a3_1 5") | (refine Ch.pu (by exact gdT rfl rfl) (by exact ⟨rfl, trivial⟩) (OpS.lenN rfl) (by first | exact trivial | exact ⟨rfl, trivial⟩) rfl ?_; trace "@S cefb96f2a3_1 6")
  first | (refine Ch.skU (gdF rfl rfl rfl) rfl ?_; trace "@S 3087651f2e_1 0") | (refine Ch.skU (gdU rfl rfl) rfl ?_; trace "@S 3087651f2e_1 1") | (refine Ch.pu (by exact gdT rfl rfl) (by exact ⟨rfl, rfl, trivial⟩) (OpS.eqNil (.p _ _) rfl) (by first | exact trivial | exact ⟨rfl, trivial⟩) rfl ?_; trace "@S 3087651f2e_1 2") | (refine Ch.pu (by exact gdT rfl rfl) (by exact ⟨rfl, rfl, trivial⟩) (OpS.int (v' := .bool false) rfl (by rw [hs']; rfl)) (by first | exact trivial | exact ⟨rfl, trivial⟩) rfl ?_; trace "@S 3087651f2e_1 3") | (refine Ch.pu (by exact gdT rfl rfl) (by exact ⟨rfl, rfl, trivial⟩) (OpS.int rfl (by first | exact wr64 (by omega) | exact rfl)) (by first | exact trivial | exact ⟨rfl, trivial⟩) rfl ?_; trace "@S 3087651f2e_1 4") | (refine Ch.pu (by exact gdT rfl rfl) (by exact ⟨rfl, rfl, trivial⟩) (OpS.strNeq) (by first | exact trivial | exact ⟨rfl, trivial⟩) rfl ?_; trace "@S 3087651f2e_1 5") | (refine Ch.pu (by exact gdT rfl rfl) (by exact ⟨rfl, rfl, trivial⟩) (OpS.boolNeq rfl) (by first | exact trivial | exact ⟨rfl, trivial⟩) rfl ?_; trace "@S 3087651f2e_1 6") | (refine Ch.pu (by exact gdT rfl rfl) (by exact ⟨rfl, rfl, trivial⟩) (OpS.binR rfl (by intro w; go_simp; with_reducible rfl)) (by first | exact trivial | exact ⟨rfl, trivial⟩) rfl ?_; trace "@S 3087651f2e_1 7")
  first | (refine Ch.pu gdN (by exact ⟨rfl, rfl, rfl, trivial⟩) (OpS.eqNil (.p _ _) rfl) (by first | exact trivial | exact ⟨rfl, trivial⟩) rfl ?_; trace "@S d72bca0f94_1 0") | (refine Ch.pu gdN (by first | exact ⟨rfl, rfl, trivial⟩ | exact ⟨rfl, rfl, rfl, trivial⟩) (OpS.pickT) (by first | exact trivial | exact ⟨rfl, trivial⟩) rfl ?_; trace "@S d72bca0f94_1 1") | (refine Ch.pu gdN (by first | exact ⟨rfl, rfl, trivial⟩ | exact ⟨rfl, rfl, rfl, trivial⟩) (OpS.pickF) (by first | exact trivial | exact ⟨rfl, trivial⟩) rfl ?_; trace "@S d72bca0f94_1 2") | (refine Ch.pu gdN (by first | exact ⟨rfl, rfl, trivial⟩ | exact ⟨rfl, rfl, rfl, trivial⟩) (OpS.pickR) (by first | exact trivial | exact ⟨rfl, trivial⟩) rfl ?_; trace "@S d72bca0f94_1 3")
  first | (refine Ch.pu gdN (by exact ⟨rfl, trivial⟩) (OpS.eqNil (.p _ _) rfl) (by first | exact trivial | exact ⟨rfl, trivial⟩) rfl ?_; trace "@S 9b1af8f976_1 0") | (refine Ch.pu gdN (by exact ⟨rfl, trivial⟩) (OpS.assign) (by first | exact trivial | exact ⟨rfl, trivial⟩) rfl ?_; trace "@S 9b1af8f976_1 1")
  refine Ch.nil ?_
  refine WP.cond_false rfl ?_
  refine WP.rs hG ?_
  refine Ch.pu gdN (by exact ⟨rfl, trivial⟩) (OpS.move) (by first | exact trivial | exact ⟨rfl, trivial⟩) rfl ?_
  first | (refine Ch.pu gdN (by exact ⟨rfl, trivial⟩) (OpS.nilCheckP) (by first | exact trivial | exact ⟨rfl, trivial⟩) rfl ?_; trace "@S af0f6d943a_1 0") | (refine Ch.pu gdN (by exact ⟨rfl, trivial⟩) (OpS.nilCheckS) (by first | exact trivial | exact ⟨rfl, trivial⟩) rfl ?_; trace "@S af0f6d943a_1 1") | (refine Ch.pu gdN (by exact ⟨rfl, trivial⟩) (OpS.nilCheckG) (by first | exact trivial | exact ⟨rfl, trivial⟩) rfl ?_; trace "@S af0f6d943a_1 2")
  refine Ch.pu gdN (by exact ⟨rfl, trivial⟩) (OpS.fieldAddr rfl rfl rfl rfl) (by first | exact trivial | exact ⟨rfl, trivial⟩) rfl ?_
  first | (refine Ch.pu gdN (by exact ⟨rfl, trivial⟩) (OpS.loadS rfl rfl) (by first | exact trivial | exact ⟨rfl, trivial⟩) rfl ?_; trace "@S 375e8846f8_1 0") | (refine Ch.pu gdN (by exact ⟨rfl, trivial⟩) (OpS.loadP rfl rfl rfl) (by first | exact trivial | exact ⟨rfl, trivial⟩) rfl ?_; trace "@S 375e8846f8_1 1")
  refine Ch.pu gdN (by exact ⟨rfl, trivial⟩) (OpS.assign) (by first | exact trivial | exact ⟨rfl, trivial⟩) rfl ?_
  refine Ch.nil ?_
  refine WP.cond rfl ?_ ?_
  · intro ht
    rw [if_pos ht, if_pos ht]
    refine WP.rs hG ?_
    refine Ch.pu gdN (by exact ⟨rfl, trivial⟩) (OpS.assign) (by first | exact trivial | exact ⟨rfl, trivial⟩) rfl ?_
    refine Ch.nil ?_
    refine WP.ret ?_
    refine (Ret.of (rs := [6]) (vs := [.v (.int .i64 120)]) (H' := dkH d) (res := .v (.int .i64 120)) [0] ?_ ?_ rfl ?_ (by simp only [List.length_cons, List.length_nil]; decide) ?_).1
    · exact (fun i hi => by rw [hnA] at hi; simp only [List.length_cons, List.length_nil] at hi ⊢; first | exact absurd hi (Nat.not_lt_zero _) | (revert i; decide))
    · (repeat (first | exact trivial | (refine And.intro ⟨(by first | trivial | (simp; first | done | fail) | exact ⟨trivial, hbel _⟩), _, rfl, (by first | exact .rfl _ | exact .nil | exact .of_eq (by simp [pend_ren]; first | done | fail) | exact AV.wk.sh (by simp [pend_ren]; first | done | fail) | exact .untip _ _ _)⟩ ?_)))
    · (repeat (first | exact trivial | refine HFromL.skip ?_ | (refine And.intro ⟨(by first | trivial | (simp; first | done | fail) | exact ⟨trivial, hbel _⟩), (by first | rfl | (simp [pend_ren]; first | done | fail) | (conv => rhs; simp only [AO.ren, AV.ren, AV.renL, Option.map_some, pend_ren]) <;> rfl)⟩ ?_)))
    · rfl
  · intro ht
    rw [if_neg (by rw [ht]; decide), if_neg (by rw [ht]; decide)]
    refine WP.skip ?_
    refine WP.rs hG ?_
    refine Ch.pu gdN (by exact ⟨rfl, trivial⟩) (OpS.move) (by first | exact trivial | exact ⟨rfl, trivial⟩) rfl ?_
    first | (refine Ch.pu gdN (by exact ⟨rfl, trivial⟩) (OpS.nilCheckP) (by first | exact trivial | exact ⟨rfl, trivial⟩) rfl ?_; trace "@S af0f6d943a_2 0") | (refine Ch.pu gdN (by exact ⟨rfl, trivial⟩) (OpS.nilCheckS) (by first | exact trivial | exact ⟨rfl, trivial⟩) rfl ?_; trace "@S af0f6d943a_2 1") | (refine Ch.pu gdN (by exact ⟨rfl, trivial⟩) (OpS.nilCheckG) (by first | exact trivial | exact ⟨rfl, trivial⟩) rfl ?_; trace "@S af0f6d943a_2 2")
    refine Ch.pu gdN (by exact ⟨rfl, trivial⟩) (OpS.fieldAddr rfl rfl rfl rfl) (by first | exact trivial | exact ⟨rfl, trivial⟩) rfl ?_
    first | (refine Ch.wr gdN (by exact ⟨rfl, rfl, trivial⟩) (OpS.storeP (cs := dkC d) rfl rfl rfl (by simp)) (by first | exact trivial | exact ⟨rfl, trivial⟩) (by first | exact trivial | exact ⟨rfl, trivial⟩ | exact ⟨rfl, rfl, trivial⟩) ?_; trace "@S 2eb2d88a95_1 0") | (refine Ch.wr gdN (by exact ⟨rfl, rfl, trivial⟩) (OpS.storeP rfl rfl rfl (by first | decide | simp)) (by first | exact trivial | exact ⟨rfl, trivial⟩) (by first | exact trivial | exact ⟨rfl, trivial⟩ | exact ⟨rfl, rfl, trivial⟩) ?_; trace "@S 2eb2d88a95_1 1")
    refine Ch.nil ?_
    refine WP.rs hG ?_
    refine Ch.pu gdN (by exact ⟨rfl, trivial⟩) (OpS.move) (by first | exact trivial | exact ⟨rfl, trivial⟩) rfl ?_
    refine Ch.callH (FC.split (ha)) [0] 1 gdN (by repeat (first | exact EvL.nil | (apply EvL.cons; exact rfl))) (by exact (And.intro (by first | exact .rfl _ | exact .untip _ _ _ | exact .nil | exact .func _ | exact AV.wk.sh (renL_s _ _) | exact AV.wk.tip rfl (by first | exact renL_b _ _ | exact renL_s _ _ | exact renL_i _ _ | exact renL_w _ _) | exact AV.wk.sh (by simp; first | done | fail)) trivial)) rfl rfl (by decide) (by decide) (by first | ((conv => lhs; simp only [AV.ren, AV.renL, AO.ren, renL_b, renL_s, renL_w, renL_i, renL_append, ren_b, ren_s, ren_w, ren_i, pi_n, pi_0, pi_s, pi_1, pi_2, pi_3, pi_4, chOld, chNew, nuNew, hpl, Option.map_some, Option.map_none, List.length_cons, List.length_nil, List.take_succ_cons, List.take_zero, List.take_nil, List.drop_succ_cons, List.drop_zero, List.drop_nil, List.cons_append, List.nil_append, Nat.zero_add, Nat.add_zero, Nat.reduceAdd, pend_ren]); all_goals rfl) | rfl) (by first | ((conv => lhs; simp only [AV.ren, AV.renL, AO.ren, renL_b, renL_s, renL_w, renL_i, renL_append, ren_b, ren_s, ren_w, ren_i, pi_n, pi_0, pi_s, pi_1, pi_2, pi_3, pi_4, chOld, chNew, nuNew, hpl, Option.map_some, Option.map_none, List.length_cons, List.length_nil, List.take_succ_cons, List.take_zero, List.take_nil, List.drop_succ_cons, List.drop_zero, List.drop_nil, List.cons_append, List.nil_append, Nat.zero_add, Nat.add_zero, Nat.reduceAdd, pend_ren]); all_goals rfl) | rfl) (by first | ((conv => lhs; simp only [AV.ren, AV.renL, AO.ren, renL_b, renL_s, renL_w, renL_i, renL_append, ren_b, ren_s, ren_w, ren_i, pi_n, pi_0, pi_s, pi_1, pi_2, pi_3, pi_4, chOld, chNew, nuNew, hpl, Option.map_some, Option.map_none, List.length_cons, List.length_nil, List.take_succ_cons, List.take_zero, List.take_nil, List.drop_succ_cons, List.drop_zero, List.drop_nil, List.cons_append, List.nil_append, Nat.zero_add, Nat.add_zero, Nat.reduceAdd, pend_ren]); all_goals rfl) | rfl) (by first | ((conv => lhs; simp only [AV.ren, AV.renL, AO.ren, renL_b, renL_s, renL_w, renL_i, renL_append, ren_b, ren_s, ren_w, ren_i, pi_n, pi_0, pi_s, pi_1, pi_2, pi_3, pi_4, chOld, chNew, nuNew, hpl, Option.map_some, Option.map_none, List.length_cons, List.length_nil, List.take_succ_cons, List.take_zero, List.take_nil, List.drop_succ_cons, List.drop_zero, List.drop_nil, List.cons_append, List.nil_append, Nat.zero_add, Nat.add_zero, Nat.reduceAdd, pend_ren]); all_goals rfl) | rfl) (by first | exact trivial | exact ⟨rfl, trivial⟩ | exact ⟨rfl, rfl, trivial⟩ | exact ⟨rfl, rfl, rfl, trivial⟩ | exact ⟨rfl, rfl, rfl, rfl, trivial⟩) (by first | exact trivial | exact ⟨rfl, trivial⟩ | exact ⟨rfl, rfl, trivial⟩ | exact ⟨rfl, rfl, rfl, trivial⟩ | exact ⟨rfl, rfl, rfl, rfl, trivial⟩) rfl ?_
    refine Ch.nil ?_
    refine WP.rs hG ?_
    refine Ch.pu gdN (by exact ⟨rfl, trivial⟩) (OpS.move) (by first | exact trivial | exact ⟨rfl, trivial⟩) rfl ?_
    refine Ch.callH (FC.split (hst)) [0] 1 gdN (by repeat (first | exact EvL.nil | (apply EvL.cons; exact rfl))) (by exact (And.intro (by first | exact .rfl _ | exact .untip _ _ _ | exact .nil | exact .func _ | exact AV.wk.sh (renL_s _ _) | exact AV.wk.tip rfl (by first | exact renL_b _ _ | exact renL_s _ _ | exact renL_i _ _ | exact renL_w _ _) | exact AV.wk.sh (by simp; first | done | fail)) trivial)) rfl rfl (by decide) (by decide) (by first | ((conv => lhs; simp only [AV.ren, AV.renL, AO.ren, renL_b, renL_s, renL_w, renL_i, renL_append, ren_b, ren_s, ren_w, ren_i, pi_n, pi_0, pi_s, pi_1, pi_2, pi_3, pi_4, chOld, chNew, nuNew, hpl, Option.map_some, Option.map_none, List.length_cons, List.length_nil, List.take_succ_cons, List.take_zero, List.take_nil, List.drop_succ_cons, List.drop_zero, List.drop_nil, List.cons_append, List.nil_append, Nat.zero_add, Nat.add_zero, Nat.reduceAdd, pend_ren]); all_goals rfl) | rfl) (by first | ((conv => lhs; simp only [AV.ren, AV.renL, AO.ren, renL_b, renL_s, renL_w, renL_i, renL_append, ren_b, ren_s, ren_w, ren_i, pi_n, pi_0, pi_s, pi_1, pi_2, pi_3, pi_4, chOld, chNew, nuNew, hpl, Option.map_some, Option.map_none, List.length_cons, List.length_nil, List.take_succ_cons, List.take_zero, List.take_nil, List.drop_succ_cons, List.drop_zero, List.drop_nil, List.cons_append, List.nil_append, Nat.zero_add, Nat.add_zero, Nat.reduceAdd, pend_ren]); all_goals rfl) | rfl) (by first | ((conv => lhs; simp only [AV.ren, AV.renL, AO.ren, renL_b, renL_s, renL_w, renL_i, renL_append, ren_b, ren_s, ren_w, ren_i, pi_n, pi_0, pi_s, pi_1, pi_2, pi_3, pi_4, chOld, chNew, nuNew, hpl, Option.map_some, Option.map_none, List.length_cons, List.length_nil, List.take_succ_cons, List.take_zero, List.take_nil, List.drop_succ_cons, List.drop_zero, List.drop_nil, List.cons_append, List.nil_append, Nat.zero_add, Nat.add_zero, Nat.reduceAdd, pend_ren]); all_goals rfl) | rfl) (by first | ((conv => lhs; simp only [AV.ren, AV.renL, AO.ren, renL_b, renL_s, renL_w, renL_i, renL_append, ren_b, ren_s, ren_w, ren_i, pi_n, pi_0, pi_s, pi_1, pi_2, pi_3, pi_4, chOld, chNew, nuNew, hpl, Option.map_some, Option.map_none, List.length_cons, List.length_nil, List.take_succ_cons, List.take_zero, List.take_nil, List.drop_succ_cons, List.drop_zero, List.drop_nil, List.cons_append, List.nil_append, Nat.zero_add, Nat.add_zero, Nat.reduceAdd, pend_ren]); all_goals rfl) | rfl) (by first | exact trivial | exact ⟨rfl, trivial⟩ | exact ⟨rfl, rfl, trivial⟩ | exact ⟨rfl, rfl, rfl, trivial⟩ | exact ⟨rfl, rfl, rfl, rfl, trivial⟩) (by first | exact trivial | exact ⟨rfl, trivial⟩ | exact ⟨rfl, rfl, trivial⟩ | exact ⟨rfl, rfl, rfl, trivial⟩ | exact ⟨rfl, rfl, rfl, rfl, trivial⟩) rfl ?_
    refine Ch.pu gdN (by exact ⟨rfl, trivial⟩) (OpS.assign) (by first | exact trivial | exact ⟨rfl, trivial⟩) rfl ?_
    refine Ch.nil ?_
    refine WP.ret ?_
    refine (Ret.of (rs := [6]) (vs := [.v (.int .i64 (errS (actD { d with p1 := some s })))]) (H' := dkH (actD { d with p1 := some s })) (res := .v (.int .i64 (errS (actD { d with p1 := some s })))) [0] ?_ ?_ rfl ?_ (by simp only [List.length_cons, List.length_nil]; decide) ?_).1
    · exact (fun i hi => by rw [hnA] at hi; simp only [List.length_cons, List.length_nil] at hi ⊢; first | exact absurd hi (Nat.not_lt_zero _) | (revert i; decide))
    · (repeat (first | exact trivial | (refine And.intro ⟨(by first | trivial | (simp; first | done | fail) | exact ⟨trivial, hbel _⟩), _, rfl, (by first | exact .rfl _ | exact .nil | exact .of_eq (by simp [pend_ren]; first | done | fail) | exact AV.wk.sh (by simp [pend_ren]; first | done | fail) | exact .untip _ _ _)⟩ ?_)))
    · (repeat (first | exact trivial | refine HFromL.skip ?_ | (refine And.intro ⟨(by first | trivial | (simp; first | done | fail) | exact ⟨trivial, hbel _⟩), (by first | rfl | (simp [pend_ren]; first | done | fail) | (conv => rhs; simp only [AO.ren, AV.ren, AV.renL, Option.map_some, pend_ren]) <;> rfl)⟩ ?_)))
    · rfl
theorem write_fc (k : Nat) (hk : k < 2) (d : Dk) (s : List UInt8) (hs' : s.length = 256) (hw : Wf d) (hd : d.dead = false) : FC Try.prog G 20 [.ptr 0 0, .v (.int .i64 (k : Int)), sA s] (dkH d)
    (.v (.int .i64 (errS (actD (wrD k s d))))) (dkH (actD (wrD k s d))) := by
  match k, hk with
  | 0, _ =>
    have h := write0_fc (G := G) d s hs' hw.left
    rw [if_neg (by rw [hd]; decide), if_neg (by rw [hd]; decide)] at h
    exact h
  | 1, _ =>
    have h := write1_fc (G := G) d s hs' hw.left
    rw [if_neg (by rw [hd]; decide), if_neg (by rw [hd]; decide)] at h
    exact h
theorem writeD_fc (k : Nat) (hk : k < 2) (d : Dk) (s : List UInt8) (hs' : s.length = 256) (hw : Wf d) (hd : d.dead = true) : FC Try.prog G 20 [.ptr 0 0, .v (.int .i64 (k : Int)), sA s] (dkH d)
    (.v (.int .i64 120)) (dkH d) := by
  match k, hk with
  | 0, _ =>
    have h := write0_fc (G := G) d s hs' hw.left
    rw [if_pos hd, if_pos hd] at h
    exact h
  | 1, _ =>
    have h := write1_fc (G := G) d s hs' hw.left
    rw [if_pos hd, if_pos hd] at h
    exact h
theorem syncD_fc (d : Dk) (hd : d.dead = true) : FC Try.prog G 21 [.ptr 0 0] (dkH d) (.v (.int .i64 120)) (dkH d) := by
  refine FC.of_wp [2] Try.func21 rfl rfl rfl rfl ⟨rfl, trivial⟩ ⟨dk_bel _ _, trivial⟩ (by exact Nat.le_of_ble_eq_true rfl) ?_
  intro A hG hnA hAB
  unfold start
  refine WP.rs hG ?_
  refine Ch.pu gdN (by exact ⟨rfl, trivial⟩) (OpS.assign) (by first | exact trivial | exact ⟨rfl, trivial⟩) rfl ?_
  refine Ch.nil ?_
  refine WP.seq ?_
  refine WP.rs hG ?_
  refine Ch.pu gdN (by exact ⟨rfl, trivial⟩) (OpS.move) (by first | exact trivial | exact ⟨rfl, trivial⟩) rfl ?_
  first | (refine Ch.pu gdN (by exact ⟨rfl, trivial⟩) (OpS.nilCheckP) (by first | exact trivial | exact ⟨rfl, trivial⟩) rfl ?_; trace "@S af0f6d943a_3 0") | (refine Ch.pu gdN (by exact ⟨rfl, trivial⟩) (OpS.nilCheckS) (by first | exact trivial | exact ⟨rfl, trivial⟩) rfl ?_; trace "@S af0f6d943a_3 1") | (refine Ch.pu gdN (by exact ⟨rfl, trivial⟩) (OpS.nilCheckG) (by first | exact trivial | exact ⟨rfl, trivial⟩) rfl ?_; trace "@S af0f6d943a_3 2")
  refine Ch.pu gdN (by exact ⟨rfl, trivial⟩) (OpS.fieldAddr rfl rfl rfl rfl) (by first | exact trivial | exact ⟨rfl, trivial⟩) rfl ?_
  first | (refine Ch.pu gdN (by exact ⟨rfl, trivial⟩) (OpS.loadS rfl rfl) (by first | exact trivial | exact ⟨rfl, trivial⟩) rfl ?_; trace "@S 375e8846f8_2 0") | (refine Ch.pu gdN (by exact ⟨rfl, trivial⟩) (OpS.loadP rfl rfl rfl) (by first | exact trivial | exact ⟨rfl, trivial⟩) rfl ?_; trace "@S 375e8846f8_2 1")
  first | (refine Ch.pu gdN (by exact ⟨rfl, trivial⟩) (OpS.not) (by first | exact trivial | exact ⟨rfl, trivial⟩) rfl ?_; trace "@S c4d052e1e7_1 0") | (refine Ch.pu gdN (by exact ⟨rfl, trivial⟩) (OpS.negI rfl (by omega)) (by first | exact trivial | exact ⟨rfl, trivial⟩) rfl ?_; trace "@S c4d052e1e7_1 1") | (refine Ch.pu gdN (by exact ⟨rfl, trivial⟩) (OpS.unR (by intro w; go_simp; with_reducible rfl)) (by first | exact trivial | exact ⟨rfl, trivial⟩) rfl ?_; trace "@S c4d052e1e7_1 2")
  refine Ch.nil ?_
  refine WP.cond rfl ?_ ?_
  · intro ht
    rw [hd] at ht; cases ht
    done
  · intro ht
    skip
    refine WP.skip ?_
    refine WP.seq ?_
    refine WP.rs hG ?_
    refine Ch.pu gdN (by exact ⟨rfl, trivial⟩) (OpS.move) (by first | exact trivial | exact ⟨rfl, trivial⟩) rfl ?_
    first | (refine Ch.pu gdN (by exact ⟨rfl, trivial⟩) (OpS.nilCheckP) (by first | exact trivial | exact ⟨rfl, trivial⟩) rfl ?_; trace "@S af0f6d943a_4 0") | (refine Ch.pu gdN (by exact ⟨rfl, trivial⟩) (OpS.nilCheckS) (by first | exact trivial | exact ⟨rfl, trivial⟩) rfl ?_; trace "@S af0f6d943a_4 1") | (refine Ch.pu gdN (by exact ⟨rfl, trivial⟩) (OpS.nilCheckG) (by first | exact trivial | exact ⟨rfl, trivial⟩) rfl ?_; trace "@S af0f6d943a_4 2")
    refine Ch.pu gdN (by exact ⟨rfl, trivial⟩) (OpS.fieldAddr rfl rfl rfl rfl) (by first | exact trivial | exact ⟨rfl, trivial⟩) rfl ?_
    first | (refine Ch.pu gdN (by exact ⟨rfl, trivial⟩) (OpS.loadS rfl rfl) (by first | exact trivial | exact ⟨rfl, trivial⟩) rfl ?_; trace "@S 375e8846f8_3 0") | (refine Ch.pu gdN (by exact ⟨rfl, trivial⟩) (OpS.loadP rfl rfl rfl) (by first | exact trivial | exact ⟨rfl, trivial⟩) rfl ?_; trace "@S 375e8846f8_3 1")
    refine Ch.nil ?_
    refine WP.cond rfl ?_ ?_
    · intro ht
      skip
      refine WP.rs hG ?_
      refine Ch.pu gdN (by exact ⟨rfl, trivial⟩) (OpS.assign) (by first | exact trivial | exact ⟨rfl, trivial⟩) rfl ?_
      refine Ch.nil ?_
      refine WP.ret ?_
      refine (Ret.of (rs := [2]) (vs := [.v (.int .i64 120)]) (H' := dkH d) (res := .v (.int .i64 120)) [0] ?_ ?_ rfl ?_ (by simp only [List.length_cons, List.length_nil]; decide) ?_).1
      · exact (fun i hi => by rw [hnA] at hi; simp only [List.length_cons, List.length_nil] at hi ⊢; first | exact absurd hi (Nat.not_lt_zero _) | (revert i; decide))
      · (repeat (first | exact trivial | (refine And.intro ⟨(by first | trivial | (simp; first | done | fail) | exact ⟨trivial, hbel _⟩), _, rfl, (by first | exact .rfl _ | exact .nil | exact .of_eq (by simp [pend_ren]; first | done | fail) | exact AV.wk.sh (by simp [pend_ren]; first | done | fail) | exact .untip _ _ _)⟩ ?_)))
      · (repeat (first | exact trivial | refine HFromL.skip ?_ | (refine And.intro ⟨(by first | trivial | (simp; first | done | fail) | exact ⟨trivial, hbel _⟩), (by first | rfl | (simp [pend_ren]; first | done | fail) | (conv => rhs; simp only [AO.ren, AV.ren, AV.renL, Option.map_some, pend_ren]) <;> rfl)⟩ ?_)))
      · rfl
    · intro ht
      rw [hd] at ht; cases ht
      done
theorem syncA_fc (d : Dk) (hw : Wf d) (hd : d.dead = false) (he : (actD d).dead = true) : FC Try.prog G 21 [.ptr 0 0] (dkH d) (.v (.int .i64 120)) (dkH (actD d)) := by
  have ha := dkActs_fc (G := G) d hw.left
  refine FC.of_wp [2] Try.func21 rfl rfl rfl rfl ⟨rfl, trivial⟩ ⟨dk_bel _ _, trivial⟩ (by exact Nat.le_of_ble_eq_true rfl) ?_
  intro A hG hnA hAB
  unfold start
  refine WP.rs hG ?_
  refine Ch.pu gdN (by exact ⟨rfl, trivial⟩) (OpS.assign) (by first | exact trivial | exact ⟨rfl, trivial⟩) rfl ?_
  refine Ch.nil ?_
  refine WP.seq ?_
  refine WP.rs hG ?_
  refine Ch.pu gdN (by exact ⟨rfl, trivial⟩) (OpS.move) (by first | exact trivial | exact ⟨rfl, trivial⟩) rfl ?_
  first | (refine Ch.pu gdN (by exact ⟨rfl, trivial⟩) (OpS.nilCheckP) (by first | exact trivial | exact ⟨rfl, trivial⟩) rfl ?_; trace "@S af0f6d943a_5 0") | (refine Ch.pu gdN (by exact ⟨rfl, trivial⟩) (OpS.nilCheckS) (by first | exact trivial | exact ⟨rfl, trivial⟩) rfl ?_; trace "@S af0f6d943a_5 1") | (refine Ch.pu gdN (by exact ⟨rfl, trivial⟩) (OpS.nilCheckG) (by first | exact trivial | exact ⟨rfl, trivial⟩) rfl ?_; trace "@S af0f6d943a_5 2")
  refine Ch.pu gdN (by exact ⟨rfl, trivial⟩) (OpS.fieldAddr rfl rfl rfl rfl) (by first | exact trivial | exact ⟨rfl, trivial⟩) rfl ?_
  first | (refine Ch.pu gdN (by exact ⟨rfl, trivial⟩) (OpS.loadS rfl rfl) (by first | exact trivial | exact ⟨rfl, trivial⟩) rfl ?_; trace "@S 375e8846f8_4 0") | (refine Ch.pu gdN (by exact ⟨rfl, trivial⟩) (OpS.loadP rfl rfl rfl) (by first | exact trivial | exact ⟨rfl, trivial⟩) rfl ?_; trace "@S 375e8846f8_4 1")
  first | (refine Ch.pu gdN (by exact ⟨rfl, trivial⟩) (OpS.not) (by first | exact trivial | exact ⟨rfl, trivial⟩) rfl ?_; trace "@S c4d052e1e7_2 0") | (refine Ch.pu gdN (by exact ⟨rfl, trivial⟩) (OpS.negI rfl (by omega)) (by first | exact trivial | exact ⟨rfl, trivial⟩) rfl ?_; trace "@S c4d052e1e7_2 1") | (refine Ch.pu gdN (by exact ⟨rfl, trivial⟩) (OpS.unR (by intro w; go_simp; with_reducible rfl)) (by first | exact trivial | exact ⟨rfl, trivial⟩) rfl ?_; trace "@S c4d052e1e7_2 2")
  refine Ch.nil ?_
  refine WP.cond rfl ?_ ?_
  · intro ht
    skip
    refine WP.rg hG ?_
    refine Ch.pu gdN (by exact ⟨rfl, trivial⟩) (OpS.move) (by first | exact trivial | exact ⟨rfl, trivial⟩) rfl ?_
    refine Ch.callH (FC.split (ha)) [0] 1 gdN (by repeat (first | exact EvL.nil | (apply EvL.cons; exact rfl))) (by exact (And.intro (by first | exact .rfl _ | exact .untip _ _ _ | exact .nil | exact .func _ | exact AV.wk.sh (renL_s _ _) | exact AV.wk.tip rfl (by first | exact renL_b _ _ | exact renL_s _ _ | exact renL_i _ _ | exact renL_w _ _) | exact AV.wk.sh (by simp; first | done | fail)) trivial)) rfl rfl (by decide) (by decide) (by first | ((conv => lhs; simp only [AV.ren, AV.renL, AO.ren, renL_b, renL_s, renL_w, renL_i, renL_append, ren_b, ren_s, ren_w, ren_i, pi_n, pi_0, pi_s, pi_1, pi_2, pi_3, pi_4, chOld, chNew, nuNew, hpl, Option.map_some, Option.map_none, List.length_cons, List.length_nil, List.take_succ_cons, List.take_zero, List.take_nil, List.drop_succ_cons, List.drop_zero, List.drop_nil, List.cons_append, List.nil_append, Nat.zero_add, Nat.add_zero, Nat.reduceAdd, pend_ren]); all_goals rfl) | rfl) (by first | ((conv => lhs; simp only [AV.ren, AV.renL, AO.ren, renL_b, renL_s, renL_w, renL_i, renL_append, ren_b, ren_s, ren_w, ren_i, pi_n, pi_0, pi_s, pi_1, pi_2, pi_3, pi_4, chOld, chNew, nuNew, hpl, Option.map_some, Option.map_none, List.length_cons, List.length_nil, List.take_succ_cons, List.take_zero, List.take_nil, List.drop_succ_cons, List.drop_zero, List.drop_nil, List.cons_append, List.nil_append, Nat.zero_add, Nat.add_zero, Nat.reduceAdd, pend_ren]); all_goals rfl) | rfl) (by first | ((conv => lhs; simp only [AV.ren, AV.renL, AO.ren, renL_b, renL_s, renL_w, renL_i, renL_append, ren_b, ren_s, ren_w, ren_i, pi_n, pi_0, pi_s, pi_1, pi_2, pi_3, pi_4, chOld, chNew, nuNew, hpl, Option.map_some, Option.map_none, List.length_cons, List.length_nil, List.take_succ_cons, List.take_zero, List.take_nil, List.drop_succ_cons, List.drop_zero, List.drop_nil, List.cons_append, List.nil_append, Nat.zero_add, Nat.add_zero, Nat.reduceAdd, pend_ren]); all_goals rfl) | rfl) (by first | ((conv => lhs; simp only [AV.ren, AV.renL, AO.ren, renL_b, renL_s, renL_w, renL_i, renL_append, ren_b, ren_s, ren_w, ren_i, pi_n, pi_0, pi_s, pi_1, pi_2, pi_3, pi_4, chOld, chNew, nuNew, hpl, Option.map_some, Option.map_none, List.length_cons, List.length_nil, List.take_succ_cons, List.take_zero, List.take_nil, List.drop_succ_cons, List.drop_zero, List.drop_nil, List.cons_append, List.nil_append, Nat.zero_add, Nat.add_zero, Nat.reduceAdd, pend_ren]); all_goals rfl) | rfl) (by first | exact trivial | exact ⟨rfl, trivial⟩ | exact ⟨rfl, rfl, trivial⟩ | exact ⟨rfl, rfl, rfl, trivial⟩ | exact ⟨rfl, rfl, rfl, rfl, trivial⟩) (by first | exact trivial | exact ⟨rfl, trivial⟩ | exact ⟨rfl, rfl, trivial⟩ | exact ⟨rfl, rfl, rfl, trivial⟩ | exact ⟨rfl, rfl, rfl, rfl, trivial⟩) rfl ?_
    refine Ch.nil ?_
    refine WP.seq ?_
    refine WP.rs hG ?_
    refine Ch.pu gdN (by exact ⟨rfl, trivial⟩) (OpS.move) (by first | exact trivial | exact ⟨rfl, trivial⟩) rfl ?_
    first | (refine Ch.pu gdN (by exact ⟨rfl, trivial⟩) (OpS.nilCheckP) (by first | exact trivial | exact ⟨rfl, trivial⟩) rfl ?_; trace "@S af0f6d943a_6 0") | (refine Ch.pu gdN (by exact ⟨rfl, trivial⟩) (OpS.nilCheckS) (by first | exact trivial | exact ⟨rfl, trivial⟩) rfl ?_; trace "@S af0f6d943a_6 1") | (refine Ch.pu gdN (by exact ⟨rfl, trivial⟩) (OpS.nilCheckG) (by first | exact trivial | exact ⟨rfl, trivial⟩) rfl ?_; trace "@S af0f6d943a_6 2")
    refine Ch.pu gdN (by exact ⟨rfl, trivial⟩) (OpS.fieldAddr rfl rfl rfl rfl) (by first | exact trivial | exact ⟨rfl, trivial⟩) rfl ?_
    first | (refine Ch.pu gdN (by exact ⟨rfl, trivial⟩) (OpS.loadS rfl rfl) (by first | exact trivial | exact ⟨rfl, trivial⟩) rfl ?_; trace "@S 375e8846f8_5 0") | (refine Ch.pu gdN (by exact ⟨rfl, trivial⟩) (OpS.loadP rfl rfl rfl) (by first | exact trivial | exact ⟨rfl, trivial⟩) rfl ?_; trace "@S 375e8846f8_5 1")
    refine Ch.nil ?_
    refine WP.cond rfl ?_ ?_
    · intro ht
      skip
      refine WP.rs hG ?_
      refine Ch.pu gdN (by exact ⟨rfl, trivial⟩) (OpS.assign) (by first | exact trivial | exact ⟨rfl, trivial⟩) rfl ?_
      refine Ch.nil ?_
      refine WP.ret ?_
      refine (Ret.of (rs := [2]) (vs := [.v (.int .i64 120)]) (H' := dkH (actD d)) (res := .v (.int .i64 120)) [0] ?_ ?_ rfl ?_ (by simp only [List.length_cons, List.length_nil]; decide) ?_).1
      · exact (fun i hi => by rw [hnA] at hi; simp only [List.length_cons, List.length_nil] at hi ⊢; first | exact absurd hi (Nat.not_lt_zero _) | (revert i; decide))
      · (repeat (first | exact trivial | (refine And.intro ⟨(by first | trivial | (simp; first | done | fail) | exact ⟨trivial, hbel _⟩), _, rfl, (by first | exact .rfl _ | exact .nil | exact .of_eq (by simp [pend_ren]; first | done | fail) | exact AV.wk.sh (by simp [pend_ren]; first | done | fail) | exact .untip _ _ _)⟩ ?_)))
      · (repeat (first | exact trivial | refine HFromL.skip ?_ | (refine And.intro ⟨(by first | trivial | (simp; first | done | fail) | exact ⟨trivial, hbel _⟩), (by first | rfl | (simp [pend_ren]; first | done | fail) | (conv => rhs; simp only [AO.ren, AV.ren, AV.renL, Option.map_some, pend_ren]) <;> rfl)⟩ ?_)))
      · rfl
    · intro ht
      rw [he] at ht; cases ht
      done
  · intro ht
    rw [hd] at ht; cases ht
    done
def syk (e : Dk) : Nat → Dk | 0 => e | 1 => st0 256 e | _ => st1 256 (st0 256 e)
theorem three (m : Nat) (h : m ≤ 2) : (m = 0 ∧ True) ∨ (m = 1 ∧ True) ∨ (m = 2 ∧ True) := by
  rcases (show m = 0 ∨ m = 1 ∨ m = 2 by omega) with rfl | rfl | rfl <;> simp
theorem sync_fc (d : Dk) (hw : Wf d) (hd : d.dead = false) (he : (actD d).dead = false) : FC Try.prog G 21 [.ptr 0 0] (dkH d) (.v (.int .i64 0)) (dkH (st1 256 (st0 256 (actD d)))) := by
  have ha := dkActs_fc (G := G) d hw.left
  have h0 := stays0_fc (G := G) (actD d) hw.act 256 (Nat.le_refl _)
  have h1 := stays1_fc (G := G) (st0 256 (actD d)) (hw.act.st0 256 (Nat.le_refl _)) 256 (Nat.le_refl _)
  refine FC.of_wp [2] Try.func21 rfl rfl rfl rfl ⟨rfl, trivial⟩ ⟨dk_bel _ _, trivial⟩ (by exact Nat.le_of_ble_eq_true rfl) ?_
  intro A hG hnA hAB
  unfold start
  refine WP.rs hG ?_
  refine Ch.pu gdN (by exact ⟨rfl, trivial⟩) (OpS.assign) (by first | exact trivial | exact ⟨rfl, trivial⟩) rfl ?_
  refine Ch.nil ?_
  refine WP.seq ?_
  refine WP.rs hG ?_
  refine Ch.pu gdN (by exact ⟨rfl, trivial⟩) (OpS.move) (by first | exact trivial | exact ⟨rfl, trivial⟩) rfl ?_
  first | (refine Ch.pu gdN (by exact ⟨rfl, trivial⟩) (OpS.nilCheckP) (by first | exact trivial | exact ⟨rfl, trivial⟩) rfl ?_; trace "@S af0f6d943a_7 0") | (refine Ch.pu gdN (by exact ⟨rfl, trivial⟩) (OpS.nilCheckS) (by first | exact trivial | exact ⟨rfl, trivial⟩) rfl ?_; trace "@S af0f6d943a_7 1") | (refine Ch.pu gdN (by exact ⟨rfl, trivial⟩) (OpS.nilCheckG) (by first | exact trivial | exact ⟨rfl, trivial⟩) rfl ?_; trace "@S af0f6d943a_7 2")
  refine Ch.pu gdN (by exact ⟨rfl, trivial⟩) (OpS.fieldAddr rfl rfl rfl rfl) (by first | exact trivial | exact ⟨rfl, trivial⟩) rfl ?_
  first | (refine Ch.pu gdN (by exact ⟨rfl, trivial⟩) (OpS.loadS rfl rfl) (by first | exact trivial | exact ⟨rfl, trivial⟩) rfl ?_; trace "@S 375e8846f8_6 0") | (refine Ch.pu gdN (by exact ⟨rfl, trivial⟩) (OpS.loadP rfl rfl rfl) (by first | exact trivial | exact ⟨rfl, trivial⟩) rfl ?_; trace "@S 375e8846f8_6 1")
  first | (refine Ch.pu gdN (by exact ⟨rfl, trivial⟩) (OpS.not) (by first | exact trivial | exact ⟨rfl, trivial⟩) rfl ?_; trace "@S c4d052e1e7_3 0") | (refine Ch.pu gdN (by exact ⟨rfl, trivial⟩) (OpS.negI rfl (by omega)) (by first | exact trivial | exact ⟨rfl, trivial⟩) rfl ?_; trace "@S c4d052e1e7_3 1") | (refine Ch.pu gdN (by exact ⟨rfl, trivial⟩) (OpS.unR (by intro w; go_simp; with_reducible rfl)) (by first | exact trivial | exact ⟨rfl, trivial⟩) rfl ?_; trace "@S c4d052e1e7_3 2")
  refine Ch.nil ?_
  refine WP.cond rfl ?_ ?_
  · intro ht
    skip
    refine WP.rg hG ?_
    refine Ch.pu gdN (by exact ⟨rfl, trivial⟩) (OpS.move) (by first | exact trivial | exact ⟨rfl, trivial⟩) rfl ?_
    refine Ch.callH (FC.split (ha)) [0] 1 gdN (by repeat (first | exact EvL.nil | (apply EvL.cons; exact rfl))) (by exact (And.intro (by first | exact .rfl _ | exact .untip _ _ _ | exact .nil | exact .func _ | exact AV.wk.sh (renL_s _ _) | exact AV.wk.tip rfl (by first | exact renL_b _ _ | exact renL_s _ _ | exact renL_i _ _ | exact renL_w _ _) | exact AV.wk.sh (by simp; first | done | fail)) trivial)) rfl rfl (by decide) (by decide) (by first | ((conv => lhs; simp only [AV.ren, AV.renL, AO.ren, renL_b, renL_s, renL_w, renL_i, renL_append, ren_b, ren_s, ren_w, ren_i, pi_n, pi_0, pi_s, pi_1, pi_2, pi_3, pi_4, chOld, chNew, nuNew, hpl, Option.map_some, Option.map_none, List.length_cons, List.length_nil, List.take_succ_cons, List.take_zero, List.take_nil, List.drop_succ_cons, List.drop_zero, List.drop_nil, List.cons_append, List.nil_append, Nat.zero_add, Nat.add_zero, Nat.reduceAdd, pend_ren]); all_goals rfl) | rfl) (by first | ((conv => lhs; simp only [AV.ren, AV.renL, AO.ren, renL_b, renL_s, renL_w, renL_i, renL_append, ren_b, ren_s, ren_w, ren_i, pi_n, pi_0, pi_s, pi_1, pi_2, pi_3, pi_4, chOld, chNew, nuNew, hpl, Option.map_some, Option.map_none, List.length_cons, List.length_nil, List.take_succ_cons, List.take_zero, List.take_nil, List.drop_succ_cons, List.drop_zero, List.drop_nil, List.cons_append, List.nil_append, Nat.zero_add, Nat.add_zero, Nat.reduceAdd, pend_ren]); all_goals rfl) | rfl) (by first | ((conv => lhs; simp only [AV.ren, AV.renL, AO.ren, renL_b, renL_s, renL_w, renL_i, renL_append, ren_b, ren_s, ren_w, ren_i, pi_n, pi_0, pi_s, pi_1, pi_2, pi_3, pi_4, chOld, chNew, nuNew, hpl, Option.map_some, Option.map_none, List.length_cons, List.length_nil, List.take_succ_cons, List.take_zero, List.take_nil, List.drop_succ_cons, List.drop_zero, List.drop_nil, List.cons_append, List.nil_append, Nat.zero_add, Nat.add_zero, Nat.reduceAdd, pend_ren]); all_goals rfl) | rfl) (by first | ((conv => lhs; simp only [AV.ren, AV.renL, AO.ren, renL_b, renL_s, renL_w, renL_i, renL_append, ren_b, ren_s, ren_w, ren_i, pi_n, pi_0, pi_s, pi_1, pi_2, pi_3, pi_4, chOld, chNew, nuNew, hpl, Option.map_some, Option.map_none, List.length_cons, List.length_nil, List.take_succ_cons, List.take_zero, List.take_nil, List.drop_succ_cons, List.drop_zero, List.drop_nil, List.cons_append, List.nil_append, Nat.zero_add, Nat.add_zero, Nat.reduceAdd, pend_ren]); all_goals rfl) | rfl) (by first | exact trivial | exact ⟨rfl, trivial⟩ | exact ⟨rfl, rfl, trivial⟩ | exact ⟨rfl, rfl, rfl, trivial⟩ | exact ⟨rfl, rfl, rfl, rfl, trivial⟩) (by first | exact trivial | exact ⟨rfl, trivial⟩ | exact ⟨rfl, rfl, trivial⟩ | exact ⟨rfl, rfl, rfl, trivial⟩ | exact ⟨rfl, rfl, rfl, rfl, trivial⟩) rfl ?_
    refine Ch.nil ?_
    refine WP.seq ?_
    refine WP.rs hG ?_
    refine Ch.pu gdN (by exact ⟨rfl, trivial⟩) (OpS.move) (by first | exact trivial | exact ⟨rfl, trivial⟩) rfl ?_
    first | (refine Ch.pu gdN (by exact ⟨rfl, trivial⟩) (OpS.nilCheckP) (by first | exact trivial | exact ⟨rfl, trivial⟩) rfl ?_; trace "@S af0f6d943a_8 0") | (refine Ch.pu gdN (by exact ⟨rfl, trivial⟩) (OpS.nilCheckS) (by first | exact trivial | exact ⟨rfl, trivial⟩) rfl ?_; trace "@S af0f6d943a_8 1") | (refine Ch.pu gdN (by exact ⟨rfl, trivial⟩) (OpS.nilCheckG) (by first | exact trivial | exact ⟨rfl, trivial⟩) rfl ?_; trace "@S af0f6d943a_8 2")
    refine Ch.pu gdN (by exact ⟨rfl, trivial⟩) (OpS.fieldAddr rfl rfl rfl rfl) (by first | exact trivial | exact ⟨rfl, trivial⟩) rfl ?_
    first | (refine Ch.pu gdN (by exact ⟨rfl, trivial⟩) (OpS.loadS rfl rfl) (by first | exact trivial | exact ⟨rfl, trivial⟩) rfl ?_; trace "@S 375e8846f8_7 0") | (refine Ch.pu gdN (by exact ⟨rfl, trivial⟩) (OpS.loadP rfl rfl rfl) (by first | exact trivial | exact ⟨rfl, trivial⟩) rfl ?_; trace "@S 375e8846f8_7 1")
    refine Ch.nil ?_
    refine WP.cond rfl ?_ ?_
    · intro ht
      rw [he] at ht; cases ht
      done
    · intro ht
      skip
      refine WP.skip ?_
      refine WP.seq ?_
      refine WP.rs hG ?_
      refine Ch.pu gdN (by exact ⟨rfl, trivial⟩) (OpS.move) (by first | exact trivial | exact ⟨rfl, trivial⟩) rfl ?_
      refine Ch.nil ?_
      refine WP.block ?_
      refine WP.loop (fun k σ => ∃ m : Nat, m + k = 2 ∧ σ = ⟨25, ls [(0, .ptr 0 0), (15, .v (.int .i64 (m : Int)))], lh [(0, .cells 57 (dkC (syk (actD d) m)))], blt 1⟩) (2) (Ent.of [0] ?_ ?_ ?_ ?_).se ⟨0, by omega, rfl⟩ ?_
      · exact (fun i hi => by rw [hnA] at hi; simp only [List.length_cons, List.length_nil] at hi ⊢; first | exact absurd hi (Nat.not_lt_zero _) | (revert i; decide))
      · (repeat (first | exact trivial | (refine And.intro ⟨(by first | trivial | (simp; first | done | fail) | exact ⟨trivial, hbel _⟩), _, rfl, (by first | exact .rfl _ | exact .nil | exact .of_eq (by simp [pend_ren, syk]; first | done | fail) | exact AV.wk.sh (by simp [pend_ren, syk]; first | done | fail) | exact .untip _ _ _)⟩ ?_)))
      · (repeat (first | exact trivial | (refine And.intro ⟨rfl, (by first | trivial | (simp; first | done | fail) | exact ⟨trivial, hbel _⟩), (by first | rfl | (simp [pend_ren, syk]; first | done | fail))⟩ ?_)))
      · simp [rn]
      · rintro k σ ⟨m, hm, rfl⟩
        rcases three m (by omega) with ⟨rfl, hq⟩ | ⟨rfl, hq⟩ | ⟨rfl, hq⟩
        · have hs := hq
          refine WP.rs hG ?_
          first | (refine Ch.pu gdN (by exact ⟨rfl, rfl, trivial⟩) (OpS.int (v' := .bool true) rfl rfl) (by first | exact trivial | exact ⟨rfl, trivial⟩) rfl ?_; trace "@S 7f35b63281_1 0") | (refine Ch.pu gdN (by exact ⟨rfl, rfl, trivial⟩) (OpS.int rfl (by first | exact wr64 (by omega) | exact rfl)) (by first | exact trivial | exact ⟨rfl, trivial⟩) rfl ?_; trace "@S 7f35b63281_1 1") | (refine Ch.pu gdN (by exact ⟨rfl, rfl, trivial⟩) (OpS.binR rfl (by intro w; go_simp; with_reducible rfl)) (by first | exact trivial | exact ⟨rfl, trivial⟩) rfl ?_; trace "@S 7f35b63281_1 2")
          refine Ch.nil ?_
          refine WP.seq ?_
          refine WP.cond_true rfl ?_
          refine WP.skip ?_
          refine WP.seq ?_
          refine WP.block ?_
          refine WP.rs hG ?_
          refine Ch.pu gdN (by exact ⟨rfl, trivial⟩) (OpS.move) (by first | exact trivial | exact ⟨rfl, trivial⟩) rfl ?_
          refine Ch.pu gdN (by exact ⟨rfl, trivial⟩) (OpS.assign) (by first | exact trivial | exact ⟨rfl, trivial⟩) rfl ?_
          refine Ch.nil ?_
          refine WP.rg hG ?_
          refine Ch.pu gdN (by exact ⟨rfl, trivial⟩) (OpS.move) (by first | exact trivial | exact ⟨rfl, trivial⟩) rfl ?_
          refine Ch.pu gdN (by exact ⟨rfl, trivial⟩) (OpS.move) (by first | exact trivial | exact ⟨rfl, trivial⟩) rfl ?_
          first | (refine Ch.pu gdN (by exact ⟨rfl, trivial⟩) (OpS.nilCheckP) (by first | exact trivial | exact ⟨rfl, trivial⟩) rfl ?_; trace "@S af0f6d943a_9 0") | (refine Ch.pu gdN (by exact ⟨rfl, trivial⟩) (OpS.nilCheckS) (by first | exact trivial | exact ⟨rfl, trivial⟩) rfl ?_; trace "@S af0f6d943a_9 1") | (refine Ch.pu gdN (by exact ⟨rfl, trivial⟩) (OpS.nilCheckG) (by first | exact trivial | exact ⟨rfl, trivial⟩) rfl ?_; trace "@S af0f6d943a_9 2")
          refine Ch.pu gdN (by exact ⟨rfl, trivial⟩) (OpS.fieldAddr rfl rfl rfl rfl) (by first | exact trivial | exact ⟨rfl, trivial⟩) rfl ?_
          first | (refine Ch.pu gdN (by exact ⟨rfl, rfl, trivial⟩) (OpS.indexAddrP (sz := 2) rfl rfl rfl (by omega) (by omega)) (by first | exact trivial | exact ⟨rfl, trivial⟩) rfl ?_; trace "@S 6e2fc51880_1 0") | (refine Ch.pu gdN (by exact ⟨rfl, rfl, trivial⟩) (OpS.indexM rfl rfl rfl (by first | with_reducible exact Int.toNat_natCast _ | with_reducible exact tnLit _ _ | with_reducible exact tnLitA _ _ | with_reducible exact tnL _ | with_reducible exact tnA _ _ | with_reducible exact tnM _ _ | with_reducible exact tnMA _ _ _ | exact rfl) (by omega) (by omega) (by first | rfl | (simp; done) | omega)) (by first | exact trivial | exact ⟨rfl, trivial⟩) rfl ?_; trace "@S 6e2fc51880_1 1") | (refine Ch.pu gdN (by exact ⟨rfl, rfl, trivial⟩) (OpS.indexAddrA (sz := 1) rfl rfl rfl (by omega) (by omega)) (by first | exact trivial | exact ⟨rfl, trivial⟩) rfl ?_; trace "@S 6e2fc51880_1 2") | (refine Ch.pu gdN (by exact ⟨rfl, rfl, trivial⟩) (OpS.indexAddrA rfl rfl rfl (by omega) (by omega)) (by first | exact trivial | exact ⟨rfl, trivial⟩) rfl ?_; trace "@S 6e2fc51880_1 3") | (refine Ch.pu gdN (by exact ⟨rfl, rfl, trivial⟩) (OpS.indexAddrP (sz := 1) rfl rfl rfl (by omega) (by omega)) (by first | exact trivial | exact ⟨rfl, trivial⟩) rfl ?_; trace "@S 6e2fc51880_1 4") | (refine Ch.pu gdN (by exact ⟨rfl, rfl, trivial⟩) (OpS.indexAddrP rfl rfl rfl (by omega) (by omega)) (by first | exact trivial | exact ⟨rfl, trivial⟩) rfl ?_; trace "@S 6e2fc51880_1 5") | (refine Ch.pu gdN (by exact ⟨rfl, rfl, trivial⟩) (OpS.indexAddrG (sz := 1) rfl rfl rfl (by omega) (by omega)) (by first | exact trivial | exact ⟨rfl, trivial⟩) rfl ?_; trace "@S 6e2fc51880_1 6") | (refine Ch.pu gdN (by exact ⟨rfl, rfl, trivial⟩) (OpS.indexAddrG rfl rfl rfl (by omega) (by omega)) (by first | exact trivial | exact ⟨rfl, trivial⟩) rfl ?_; trace "@S 6e2fc51880_1 7")
          refine Ch.callH (FC.split (h0)) [0] 1 gdN (by repeat (first | exact EvL.nil | (apply EvL.cons; exact rfl))) (by exact (And.intro (by first | exact .rfl _ | exact .untip _ _ _ | exact .nil | exact .func _ | exact AV.wk.sh (renL_s _ _) | exact AV.wk.tip rfl (by first | exact renL_b _ _ | exact renL_s _ _ | exact renL_i _ _ | exact renL_w _ _) | exact AV.wk.sh (by simp; first | done | fail)) (And.intro (by first | exact .rfl _ | exact .untip _ _ _ | exact .nil | exact .func _ | exact AV.wk.sh (renL_s _ _) | exact AV.wk.tip rfl (by first | exact renL_b _ _ | exact renL_s _ _ | exact renL_i _ _ | exact renL_w _ _) | exact AV.wk.sh (by simp; first | done | fail)) trivial))) rfl rfl (by decide) (by decide) (by first | ((conv => lhs; simp only [AV.ren, AV.renL, AO.ren, renL_b, renL_s, renL_w, renL_i, renL_append, ren_b, ren_s, ren_w, ren_i, pi_n, pi_0, pi_s, pi_1, pi_2, pi_3, pi_4, chOld, chNew, nuNew, hpl, Option.map_some, Option.map_none, List.length_cons, List.length_nil, List.take_succ_cons, List.take_zero, List.take_nil, List.drop_succ_cons, List.drop_zero, List.drop_nil, List.cons_append, List.nil_append, Nat.zero_add, Nat.add_zero, Nat.reduceAdd, pend_ren]); all_goals rfl) | rfl) (by first | ((conv => lhs; simp only [AV.ren, AV.renL, AO.ren, renL_b, renL_s, renL_w, renL_i, renL_append, ren_b, ren_s, ren_w, ren_i, pi_n, pi_0, pi_s, pi_1, pi_2, pi_3, pi_4, chOld, chNew, nuNew, hpl, Option.map_some, Option.map_none, List.length_cons, List.length_nil, List.take_succ_cons, List.take_zero, List.take_nil, List.drop_succ_cons, List.drop_zero, List.drop_nil, List.cons_append, List.nil_append, Nat.zero_add, Nat.add_zero, Nat.reduceAdd, pend_ren]); all_goals rfl) | rfl) (by first | ((conv => lhs; simp only [AV.ren, AV.renL, AO.ren, renL_b, renL_s, renL_w, renL_i, renL_append, ren_b, ren_s, ren_w, ren_i, pi_n, pi_0, pi_s, pi_1, pi_2, pi_3, pi_4, chOld, chNew, nuNew, hpl, Option.map_some, Option.map_none, List.length_cons, List.length_nil, List.take_succ_cons, List.take_zero, List.take_nil, List.drop_succ_cons, List.drop_zero, List.drop_nil, List.cons_append, List.nil_append, Nat.zero_add, Nat.add_zero, Nat.reduceAdd, pend_ren]); all_goals rfl) | rfl) (by first | ((conv => lhs; simp only [AV.ren, AV.renL, AO.ren, renL_b, renL_s, renL_w, renL_i, renL_append, ren_b, ren_s, ren_w, ren_i, pi_n, pi_0, pi_s, pi_1, pi_2, pi_3, pi_4, chOld, chNew, nuNew, hpl, Option.map_some, Option.map_none, List.length_cons, List.length_nil, List.take_succ_cons, List.take_zero, List.take_nil, List.drop_succ_cons, List.drop_zero, List.drop_nil, List.cons_append, List.nil_append, Nat.zero_add, Nat.add_zero, Nat.reduceAdd, pend_ren]); all_goals rfl) | rfl) (by first | exact trivial | exact ⟨rfl, trivial⟩ | exact ⟨rfl, rfl, trivial⟩ | exact ⟨rfl, rfl, rfl, trivial⟩ | exact ⟨rfl, rfl, rfl, rfl, trivial⟩) (by first | exact trivial | exact ⟨rfl, trivial⟩ | exact ⟨rfl, rfl, trivial⟩ | exact ⟨rfl, rfl, rfl, trivial⟩ | exact ⟨rfl, rfl, rfl, rfl, trivial⟩) rfl ?_
          refine Ch.nil ?_
          refine WP.rg hG ?_
          first | (refine Ch.pu gdN (by exact ⟨rfl, rfl, trivial⟩) (OpS.int (v' := .int .i64 ((1 : Nat) : Int)) rfl rfl) (by first | exact trivial | exact ⟨rfl, trivial⟩) rfl ?_; trace "@S 27aae167e0_1 0") | (refine Ch.pu gdN (by exact ⟨rfl, rfl, trivial⟩) (OpS.add_u32) (by first | exact trivial | exact ⟨rfl, trivial⟩) rfl ?_; trace "@S 27aae167e0_1 1") | (refine Ch.pu gdN (by exact ⟨rfl, rfl, trivial⟩) (OpS.add_u64) (by first | exact trivial | exact ⟨rfl, trivial⟩) rfl ?_; trace "@S 27aae167e0_1 2") | (refine Ch.pu gdN (by exact ⟨rfl, rfl, trivial⟩) (OpS.int rfl (by first | exact wr64 (by omega) | exact rfl)) (by first | exact trivial | exact ⟨rfl, trivial⟩) rfl ?_; trace "@S 27aae167e0_1 3") | (refine Ch.pu gdN (by exact ⟨rfl, rfl, trivial⟩) (OpS.strAdd (by omega)) (by first | exact trivial | exact ⟨rfl, trivial⟩) rfl ?_; trace "@S 27aae167e0_1 4") | (refine Ch.pu gdN (by exact ⟨rfl, rfl, trivial⟩) (OpS.binR rfl (by intro w; go_simp; with_reducible rfl)) (by first | exact trivial | exact ⟨rfl, trivial⟩) rfl ?_; trace "@S 27aae167e0_1 5")
          refine Ch.pu gdN (by exact ⟨rfl, trivial⟩) (OpS.move) (by first | exact trivial | exact ⟨rfl, trivial⟩) rfl ?_
          refine Ch.nil ?_
          refine ⟨k - 1, _, by omega, (Ent.of [0] ?_ ?_ ?_ ?_).se, 1, by omega, rfl⟩
          · exact (fun i hi => by rw [hnA] at hi; simp only [List.length_cons, List.length_nil] at hi ⊢; first | exact absurd hi (Nat.not_lt_zero _) | (revert i; decide))
          · (repeat (first | exact trivial | (refine And.intro ⟨(by first | trivial | (simp; first | done | fail) | exact ⟨trivial, hbel _⟩), _, rfl, (by first | exact .rfl _ | exact .nil | exact .of_eq (by simp [pend_ren, syk]; first | done | fail) | exact AV.wk.sh (by simp [pend_ren, syk]; first | done | fail) | exact .untip _ _ _)⟩ ?_)))
          · (repeat (first | exact trivial | (refine And.intro ⟨rfl, (by first | trivial | (simp; first | done | fail) | exact ⟨trivial, hbel _⟩), (by first | rfl | (simp [pend_ren, syk]; first | done | fail))⟩ ?_)))
          · simp [rn]
        · have hs := hq
          refine WP.rs hG ?_
          first | (refine Ch.pu gdN (by exact ⟨rfl, rfl, trivial⟩) (OpS.int (v' := .bool true) rfl rfl) (by first | exact trivial | exact ⟨rfl, trivial⟩) rfl ?_; trace "@S 7f35b63281_2 0") | (refine Ch.pu gdN (by exact ⟨rfl, rfl, trivial⟩) (OpS.int rfl (by first | exact wr64 (by omega) | exact rfl)) (by first | exact trivial | exact ⟨rfl, trivial⟩) rfl ?_; trace "@S 7f35b63281_2 1") | (refine Ch.pu gdN (by exact ⟨rfl, rfl, trivial⟩) (OpS.binR rfl (by intro w; go_simp; with_reducible rfl)) (by first | exact trivial | exact ⟨rfl, trivial⟩) rfl ?_; trace "@S 7f35b63281_2 2")
          refine Ch.nil ?_
          refine WP.seq ?_
          refine WP.cond_true rfl ?_
          refine WP.skip ?_
          refine WP.seq ?_
          refine WP.block ?_
          refine WP.rs hG ?_
          refine Ch.pu gdN (by exact ⟨rfl, trivial⟩) (OpS.move) (by first | exact trivial | exact ⟨rfl, trivial⟩) rfl ?_
          refine Ch.pu gdN (by exact ⟨rfl, trivial⟩) (OpS.assign) (by first | exact trivial | exact ⟨rfl, trivial⟩) rfl ?_
          refine Ch.nil ?_
          refine WP.rg hG ?_
          refine Ch.pu gdN (by exact ⟨rfl, trivial⟩) (OpS.move) (by first | exact trivial | exact ⟨rfl, trivial⟩) rfl ?_
          refine Ch.pu gdN (by exact ⟨rfl, trivial⟩) (OpS.move) (by first | exact trivial | exact ⟨rfl, trivial⟩) rfl ?_
          first | (refine Ch.pu gdN (by exact ⟨rfl, trivial⟩) (OpS.nilCheckP) (by first | exact trivial | exact ⟨rfl, trivial⟩) rfl ?_; trace "@S af0f6d943a_10 0") | (refine Ch.pu gdN (by exact ⟨rfl, trivial⟩) (OpS.nilCheckS) (by first | exact trivial | exact ⟨rfl, trivial⟩) rfl ?_; trace "@S af0f6d943a_10 1") | (refine Ch.pu gdN (by exact ⟨rfl, trivial⟩) (OpS.nilCheckG) (by first | exact trivial | exact ⟨rfl, trivial⟩) rfl ?_; trace "@S af0f6d943a_10 2")
          refine Ch.pu gdN (by exact ⟨rfl, trivial⟩) (OpS.fieldAddr rfl rfl rfl rfl) (by first | exact trivial | exact ⟨rfl, trivial⟩) rfl ?_
          first | (refine Ch.pu gdN (by exact ⟨rfl, rfl, trivial⟩) (OpS.indexAddrP (sz := 2) rfl rfl rfl (by omega) (by omega)) (by first | exact trivial | exact ⟨rfl, trivial⟩) rfl ?_; trace "@S 6e2fc51880_2 0") | (refine Ch.pu gdN (by exact ⟨rfl, rfl, trivial⟩) (OpS.indexM rfl rfl rfl (by first | with_reducible exact Int.toNat_natCast _ | with_reducible exact tnLit _ _ | with_reducible exact tnLitA _ _ | with_reducible exact tnL _ | with_reducible exact tnA _ _ | with_reducible exact tnM _ _ | with_reducible exact tnMA _ _ _ | exact rfl) (by omega) (by omega) (by first | rfl | (simp; done) | omega)) (by first | exact trivial | exact ⟨rfl, trivial⟩) rfl ?_; trace "@S 6e2fc51880_2 1") | (refine Ch.pu gdN (by exact ⟨rfl, rfl, trivial⟩) (OpS.indexAddrA (sz := 1) rfl rfl rfl (by omega) (by omega)) (by first | exact trivial | exact ⟨rfl, trivial⟩) rfl ?_; trace "@S 6e2fc51880_2 2") | (refine Ch.pu gdN (by exact ⟨rfl, rfl, trivial⟩) (OpS.indexAddrA rfl rfl rfl (by omega) (by omega)) (by first | exact trivial | exact ⟨rfl, trivial⟩) rfl ?_; trace "@S 6e2fc51880_2 3") | (refine Ch.pu gdN (by exact ⟨rfl, rfl, trivial⟩) (OpS.indexAddrP (sz := 1) rfl rfl rfl (by omega) (by omega)) (by first | exact trivial | exact ⟨rfl, trivial⟩) rfl ?_; trace "@S 6e2fc51880_2 4") | (refine Ch.pu gdN (by exact ⟨rfl, rfl, trivial⟩) (OpS.indexAddrP rfl rfl rfl (by omega) (by omega)) (by first | exact trivial | exact ⟨rfl, trivial⟩) rfl ?_; trace "@S 6e2fc51880_2 5") | (refine Ch.pu gdN (by exact ⟨rfl, rfl, trivial⟩) (OpS.indexAddrG (sz := 1) rfl rfl rfl (by omega) (by omega)) (by first | exact trivial | exact ⟨rfl, trivial⟩) rfl ?_; trace "@S 6e2fc51880_2 6") | (refine Ch.pu gdN (by exact ⟨rfl, rfl, trivial⟩) (OpS.indexAddrG rfl rfl rfl (by omega) (by omega)) (by first | exact trivial | exact ⟨rfl, trivial⟩) rfl ?_; trace "@S 6e2fc51880_2 7")
          refine Ch.callH (FC.split (h1)) [0] 1 gdN (by repeat (first | exact EvL.nil | (apply EvL.cons; exact rfl))) (by exact (And.intro (by first | exact .rfl _ | exact .untip _ _ _ | exact .nil | exact .func _ | exact AV.wk.sh (renL_s _ _) | exact AV.wk.tip rfl (by first | exact renL_b _ _ | exact renL_s _ _ | exact renL_i _ _ | exact renL_w _ _) | exact AV.wk.sh (by simp; first | done | fail)) (And.intro (by first | exact .rfl _ | exact .untip _ _ _ | exact .nil | exact .func _ | exact AV.wk.sh (renL_s _ _) | exact AV.wk.tip rfl (by first | exact renL_b _ _ | exact renL_s _ _ | exact renL_i _ _ | exact renL_w _ _) | exact AV.wk.sh (by simp; first | done | fail)) trivial))) rfl rfl (by decide) (by decide) (by first | ((conv => lhs; simp only [AV.ren, AV.renL, AO.ren, renL_b, renL_s, renL_w, renL_i, renL_append, ren_b, ren_s, ren_w, ren_i, pi_n, pi_0, pi_s, pi_1, pi_2, pi_3, pi_4, chOld, chNew, nuNew, hpl, Option.map_some, Option.map_none, List.length_cons, List.length_nil, List.take_succ_cons, List.take_zero, List.take_nil, List.drop_succ_cons, List.drop_zero, List.drop_nil, List.cons_append, List.nil_append, Nat.zero_add, Nat.add_zero, Nat.reduceAdd, pend_ren]); all_goals rfl) | rfl) (by first | ((conv => lhs; simp only [AV.ren, AV.renL, AO.ren, renL_b, renL_s, renL_w, renL_i, renL_append, ren_b, ren_s, ren_w, ren_i, pi_n, pi_0, pi_s, pi_1, pi_2, pi_3, pi_4, chOld, chNew, nuNew, hpl, Option.map_some, Option.map_none, List.length_cons, List.length_nil, List.take_succ_cons, List.take_zero, List.take_nil, List.drop_succ_cons, List.drop_zero, List.drop_nil, List.cons_append, List.nil_append, Nat.zero_add, Nat.add_zero, Nat.reduceAdd, pend_ren]); all_goals rfl) | rfl) (by first | ((conv => lhs; simp only [AV.ren, AV.renL, AO.ren, renL_b, renL_s, renL_w, renL_i, renL_append, ren_b, ren_s, ren_w, ren_i, pi_n, pi_0, pi_s, pi_1, pi_2, pi_3, pi_4, chOld, chNew, nuNew, hpl, Option.map_some, Option.map_none, List.length_cons, List.length_nil, List.take_succ_cons, List.take_zero, List.take_nil, List.drop_succ_cons, List.drop_zero, List.drop_nil, List.cons_append, List.nil_append, Nat.zero_add, Nat.add_zero, Nat.reduceAdd, pend_ren]); all_goals rfl) | rfl) (by first | ((conv => lhs; simp only [AV.ren, AV.renL, AO.ren, renL_b, renL_s, renL_w, renL_i, renL_append, ren_b, ren_s, ren_w, ren_i, pi_n, pi_0, pi_s, pi_1, pi_2, pi_3, pi_4, chOld, chNew, nuNew, hpl, Option.map_some, Option.map_none, List.length_cons, List.length_nil, List.take_succ_cons, List.take_zero, List.take_nil, List.drop_succ_cons, List.drop_zero, List.drop_nil, List.cons_append, List.nil_append, Nat.zero_add, Nat.add_zero, Nat.reduceAdd, pend_ren]); all_goals rfl) | rfl) (by first | exact trivial | exact ⟨rfl, trivial⟩ | exact ⟨rfl, rfl, trivial⟩ | exact ⟨rfl, rfl, rfl, trivial⟩ | exact ⟨rfl, rfl, rfl, rfl, trivial⟩) (by first | exact trivial | exact ⟨rfl, trivial⟩ | exact ⟨rfl, rfl, trivial⟩ | exact ⟨rfl, rfl, rfl, trivial⟩ | exact ⟨rfl, rfl, rfl, rfl, trivial⟩) rfl ?_
          refine Ch.nil ?_
          refine WP.rg hG ?_
          first | (refine Ch.pu gdN (by exact ⟨rfl, rfl, trivial⟩) (OpS.int (v' := .int .i64 ((2 : Nat) : Int)) rfl rfl) (by first | exact trivial | exact ⟨rfl, trivial⟩) rfl ?_; trace "@S a70a6302bc_1 0") | (refine Ch.pu gdN (by exact ⟨rfl, rfl, trivial⟩) (OpS.add_u32) (by first | exact trivial | exact ⟨rfl, trivial⟩) rfl ?_; trace "@S a70a6302bc_1 1") | (refine Ch.pu gdN (by exact ⟨rfl, rfl, trivial⟩) (OpS.add_u64) (by first | exact trivial | exact ⟨rfl, trivial⟩) rfl ?_; trace "@S a70a6302bc_1 2") | (refine Ch.pu gdN (by exact ⟨rfl, rfl, trivial⟩) (OpS.int rfl (by first | exact wr64 (by omega) | exact rfl)) (by first | exact trivial | exact ⟨rfl, trivial⟩) rfl ?_; trace "@S a70a6302bc_1 3") | (refine Ch.pu gdN (by exact ⟨rfl, rfl, trivial⟩) (OpS.strAdd (by omega)) (by first | exact trivial | exact ⟨rfl, trivial⟩) rfl ?_; trace "@S a70a6302bc_1 4") | (refine Ch.pu gdN (by exact ⟨rfl, rfl, trivial⟩) (OpS.binR rfl (by intro w; go_simp; with_reducible rfl)) (by first | exact trivial | exact ⟨rfl, trivial⟩) rfl ?_; trace "@S a70a6302bc_1 5")
          refine Ch.pu gdN (by exact ⟨rfl, trivial⟩) (OpS.move) (by first | exact trivial | exact ⟨rfl, trivial⟩) rfl ?_
          refine Ch.nil ?_
          refine ⟨k - 1, _, by omega, (Ent.of [0] ?_ ?_ ?_ ?_).se, 2, by omega, rfl⟩
          · exact (fun i hi => by rw [hnA] at hi; simp only [List.length_cons, List.length_nil] at hi ⊢; first | exact absurd hi (Nat.not_lt_zero _) | (revert i; decide))
          · (repeat (first | exact trivial | (refine And.intro ⟨(by first | trivial | (simp; first | done | fail) | exact ⟨trivial, hbel _⟩), _, rfl, (by first | exact .rfl _ | exact .nil | exact .of_eq (by simp [pend_ren, syk]; first | done | fail) | exact AV.wk.sh (by simp [pend_ren, syk]; first | done | fail) | exact .untip _ _ _)⟩ ?_)))
          · (repeat (first | exact trivial | (refine And.intro ⟨rfl, (by first | trivial | (simp; first | done | fail) | exact ⟨trivial, hbel _⟩), (by first | rfl | (simp [pend_ren, syk]; first | done | fail))⟩ ?_)))
          · simp [rn]
        · have hs := hq
          refine WP.rs hG ?_
          first | (refine Ch.pu gdN (by exact ⟨rfl, rfl, trivial⟩) (OpS.int (v' := .bool false) rfl rfl) (by first | exact trivial | exact ⟨rfl, trivial⟩) rfl ?_; trace "@S 02ebd19678_1 0") | (refine Ch.pu gdN (by exact ⟨rfl, rfl, trivial⟩) (OpS.int rfl (by first | exact wr64 (by omega) | exact rfl)) (by first | exact trivial | exact ⟨rfl, trivial⟩) rfl ?_; trace "@S 02ebd19678_1 1") | (refine Ch.pu gdN (by exact ⟨rfl, rfl, trivial⟩) (OpS.binR rfl (by intro w; go_simp; with_reducible rfl)) (by first | exact trivial | exact ⟨rfl, trivial⟩) rfl ?_; trace "@S 02ebd19678_1 2")
          refine Ch.nil ?_
          refine WP.seq ?_
          refine WP.cond_false rfl ?_
          refine WP.exit ?_
          refine WP.rs hG ?_
          refine Ch.pu gdN (by exact ⟨rfl, trivial⟩) (OpS.assign) (by first | exact trivial | exact ⟨rfl, trivial⟩) rfl ?_
          refine Ch.nil ?_
          refine WP.ret ?_
          refine (Ret.of (rs := [2]) (vs := [.v (.int .i64 0)]) (H' := dkH (st1 256 (st0 256 (actD d)))) (res := .v (.int .i64 0)) [0] ?_ ?_ rfl ?_ (by simp only [List.length_cons, List.length_nil]; decide) ?_).1
          · exact (fun i hi => by rw [hnA] at hi; simp only [List.length_cons, List.length_nil] at hi ⊢; first | exact absurd hi (Nat.not_lt_zero _) | (revert i; decide))
          · (repeat (first | exact trivial | (refine And.intro ⟨(by first | trivial | (simp; first | done | fail) | exact ⟨trivial, hbel _⟩), _, rfl, (by first | exact .rfl _ | exact .nil | exact .of_eq (by simp [pend_ren]; first | done | fail) | exact AV.wk.sh (by simp [pend_ren]; first | done | fail) | exact .untip _ _ _)⟩ ?_)))
          · (repeat (first | exact trivial | refine HFromL.skip ?_ | (refine And.intro ⟨(by first | trivial | (simp; first | done | fail) | exact ⟨trivial, hbel _⟩), (by first | rfl | (simp [pend_ren]; first | done | fail) | (conv => rhs; simp only [AO.ren, AV.ren, AV.renL, Option.map_some, pend_ren]) <;> rfl)⟩ ?_)))
          · rfl
  · intro ht
    rw [hd] at ht; cases ht
    done
end
end Go.Proofs.Ytjmbendppcildaa.E
end
