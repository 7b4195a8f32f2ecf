import Derived.Test.YtpnbpcopdckgpaaGreatDoorZ1329033a
import Derived.Test.YtpnbpcopdckgpaaGreatDoorZa71524db
import Derived.Test.YtpnbpcopdckgpaaGreatDoorZ47c3d55d
import Derived.Test.YtpnbpcopdckgpaaGreatDoorZ421b1b36
namespace Go.Proofs.YtpnbpcopdckgpaaGreatDoor.E
open Go Go.RowKit V
def curS (d : Dk) (c : Nat) : List UInt8 := if c % 2 = 0 then d.l0 else d.l1
def othS (d : Dk) (c : Nat) : List UInt8 := if c % 2 = 0 then d.l1 else d.l0
theorem cur_even (d : Dk) {c : Nat} (h : c % 2 = 0) : curS d c = d.l0 ∧ othS d c = d.l1 := ⟨if_pos h, if_pos h⟩
theorem cur_odd (d : Dk) {c : Nat} (h : c % 2 = 1) : curS d c = d.l1 ∧ othS d c = d.l0 := ⟨if_neg (by omega), if_neg (by omega)⟩
structure Good (d : Dk) (c : Nat) (s : List UInt8) : Prop where
 wf : Wf d
 dead : d.dead = false
 p0 : d.p0 = none
 p1 : d.p1 = none
 cur : CurJ (curS d c) (othS d c) c s
theorem nd_wf : Wf (nd 2) := ⟨List.length_replicate, List.length_replicate, (fun s h => by cases h), (fun s h => by cases h), by decide⟩
theorem z_drop : z256.drop 248 = beS (UInt64.ofNat 0) 8 := by
 rw [be8_low (by decide)]
 unfold z256
 rw [List.drop_replicate]
 rfl
theorem good_new : Good (nd 2) 0 [] :=
 ⟨nd_wf, rfl, rfl, rfl, by decide, by decide, List.length_replicate, List.length_replicate, fun _ => ⟨rfl, z_drop⟩, fun h => absurd h (by decide), 0, Nat.le_refl _, z_drop⟩
theorem Good.opens {d : Dk} {c : Nat} {s : List UInt8} (h : Good d c s) : openJ (nw0 d) (nw1 d) = (UInt64.ofNat c, s) := by
 have e0 : nw0 d = d.l0 := by unfold nw0; rw [h.p0]
 have e1 : nw1 d = d.l1 := by unfold nw1; rw [h.p1]
 rw [e0, e1]
 have hc := h.cur
 rcases Nat.mod_two_eq_zero_or_one c with hp | hp
 ·
  rw [(cur_even d hp).1, (cur_even d hp).2] at hc
  exact openJ_even hc hp
 rw [(cur_odd d hp).1, (cur_odd d hp).2] at hc
 exact openJ_odd hc hp
structure Pn (d : Dk) (c : Nat) (s t : List UInt8) : Prop where
 wf : Wf d
 p : (c % 2 = 1 ∧ d.p0 = some (layJ (UInt64.ofNat (c + 1)) t) ∧ d.p1 = none) ∨ (c % 2 = 0 ∧ d.p1 = some (layJ (UInt64.ofNat (c + 1)) t) ∧ d.p0 = none)
 cur : CurJ (curS d c) (othS d c) c s
 len : t.length ≤ 200
 lt : c + 1 < 250
theorem lay_len {c : UInt64} {t : List UInt8} (h : t.length ≤ 200) : (layJ c t).length = 256 := layJ_length _ _ (by omega)
theorem Good.pend {d : Dk} {c k : Nat} {s t : List UInt8} (h : Good d c s) (ht : t.length ≤ 200) (hc : c + 1 < 250) (hk : k = (c + 1) % 2) : Pn (wrD k (layJ (UInt64.ofNat (c + 1)) t) d) c s t := by
 have hw := h.wf.wr k (layJ (UInt64.ofNat (c + 1)) t) (lay_len ht)
 rcases Nat.mod_two_eq_zero_or_one c with hp | hp
 ·
  obtain rfl : k = 1 := by omega
  exact ⟨hw, .inr ⟨hp, rfl, h.p0⟩, h.cur, ht, hc⟩
 obtain rfl : k = 0 := by omega
 exact ⟨hw, .inl ⟨hp, rfl, h.p1⟩, h.cur, ht, hc⟩
theorem act_same (d : Dk) : (actD d).l0 = d.l0 ∧ (actD d).l1 = d.l1 ∧ (actD d).p0 = d.p0 ∧ (actD d).p1 = d.p1 := by
 unfold actD
 split <;> exact ⟨rfl, rfl, rfl, rfl⟩
theorem Pn.act {d : Dk} {c : Nat} {s t : List UInt8} (h : Pn d c s t) : Pn (actD d) c s t := by
 obtain ⟨h0, h1, h2, h3⟩ := act_same d
 refine ⟨h.wf.act, by rw [h2, h3]; exact h.p, ?_, h.len, h.lt⟩
 have := h.cur
 unfold curS othS at this ⊢
 rw [h0, h1]
 exact this
theorem Pn.set {d : Dk} {c : Nat} {s t : List UInt8} (h : Pn d c s t) (n : Nat) (hn : n ≤ 256) (e : Dk) (hwf : Wf e) (hdead : e.dead = false) (hp0 : e.p0 = none) (hp1 : e.p1 = none)
  (hl : (c % 2 = 1 → e.l1 = d.l1 ∧ e.l0 = (layJ (UInt64.ofNat (c + 1)) t).take n ++ d.l0.drop n) ∧ (c % 2 = 0 → e.l0 = d.l0 ∧ e.l1 = (layJ (UInt64.ofNat (c + 1)) t).take n ++ d.l1.drop n)) :
  (n < 256 → Good e c s) ∧ (n = 256 → Good e (c + 1) t) := by
 have hc := h.cur
 rcases Nat.mod_two_eq_zero_or_one c with hp | hp
 ·
  obtain ⟨k0, k1⟩ := hl.2 hp
  rw [(cur_even d hp).1, (cur_even d hp).2] at hc
  refine ⟨fun hlt => ⟨hwf, hdead, hp0, hp1, ?_⟩, fun he => ⟨hwf, hdead, hp0, hp1, ?_⟩⟩
  ·
   rw [(cur_even e hp).1, (cur_even e hp).2, k0, k1]
   exact hc.torn t h.len h.lt n hlt
  subst he
  rw [(cur_odd e (by omega)).1, (cur_odd e (by omega)).2, k0, k1]
  exact hc.whole t h.len h.lt
 obtain ⟨k0, k1⟩ := hl.1 hp
 rw [(cur_odd d hp).1, (cur_odd d hp).2] at hc
 refine ⟨fun hlt => ⟨hwf, hdead, hp0, hp1, ?_⟩, fun he => ⟨hwf, hdead, hp0, hp1, ?_⟩⟩
 ·
  rw [(cur_odd e hp).1, (cur_odd e hp).2, k0, k1]
  exact hc.torn t h.len h.lt n hlt
 subst he
 rw [(cur_even e (by omega)).1, (cur_even e (by omega)).2, k0, k1]
 exact hc.whole t h.len h.lt
theorem Pn.sync {d : Dk} {c : Nat} {s t : List UInt8} (h : Pn d c s t) (hd : d.dead = false) : Good (st1 256 (st0 256 d)) (c + 1) t := by
 have hwf : Wf (st1 256 (st0 256 d)) := (h.wf.st0 256 (Nat.le_refl _)).st1 256 (Nat.le_refl _)
 obtain ⟨l0, l1, p0, p1, lf, dd⟩ := d
 rcases h.p with ⟨hp, h0, h1⟩ | ⟨hp, h0, h1⟩
 ·
  cases h0; cases h1
  exact (h.set 256 (Nat.le_refl _) _ hwf hd rfl rfl ⟨fun _ => ⟨rfl, rfl⟩, fun h => by omega⟩).2 rfl
 cases h0; cases h1
 exact (h.set 256 (Nat.le_refl _) _ hwf hd rfl rfl ⟨fun h => by omega, fun _ => ⟨rfl, rfl⟩⟩).2 rfl
theorem howN_le (h : List Int) : howN h ≤ 256 := by cases h <;> exact clN_le _
theorem Wf.crash {d : Dk} (h : Wf d) (hs : List Int) : Wf (crashD d hs) := by
 have key : ∀ e : Dk, Wf e → Wf (crE e) := fun e he => ⟨he.l0, he.l1, he.p0, he.p1, (show (0 : Int) ≤ 0 ∧ (0 : Int) ≤ 9223372036854775807 by decide)⟩
 refine key _ ?_
 have h0 : ∀ g, Wf (cr0 d g).1 := fun g => by
  unfold cr0; split
  · exact h
  exact h.st0 _ (howN_le _)
 have h1 : ∀ (e : Dk) g, Wf e → Wf (cr1 e g).1 := fun e g he => by
  unfold cr1; split
  · exact he
  exact he.st1 _ (howN_le _)
 exact h1 _ _ (h0 _)
theorem Pn.crash2 {d : Dk} {c : Nat} {s t : List UInt8} (h : Pn d c s t) (hs : List Int) : (howN hs < 256 → Good (crashD d hs) c s) ∧ (howN hs = 256 → Good (crashD d hs) (c + 1) t) := by
 have hwf := h.wf.crash hs
 have hle := howN_le hs
 obtain ⟨l0, l1, p0, p1, lf, dd⟩ := d
 rcases h.p with ⟨hp, h0, h1⟩ | ⟨hp, h0, h1⟩
 ·
  cases h0; cases h1
  exact h.set (howN hs) hle _ hwf rfl rfl rfl ⟨fun _ => ⟨rfl, rfl⟩, fun h => by omega⟩
 cases h0; cases h1
 exact h.set (howN hs) hle _ hwf rfl rfl rfl ⟨fun h => by omega, fun _ => ⟨rfl, rfl⟩⟩
theorem Pn.crash {d : Dk} {c : Nat} {s t : List UInt8} (h : Pn d c s t) (hs : List Int) : Good (crashD d hs) c s ∨ Good (crashD d hs) (c + 1) t := by
 have hle := howN_le hs
 rcases Nat.lt_or_ge (howN hs) 256 with hlt | hge
 · exact .inl ((h.crash2 hs).1 hlt)
 exact .inr ((h.crash2 hs).2 (by omega))
theorem Good.crash {d : Dk} {c : Nat} {s : List UInt8} (h : Good d c s) (hs : List Int) : Good (crashD d hs) c s := by
 have hwf := h.wf.crash hs
 obtain ⟨l0, l1, p0, p1, lf, dd⟩ := d
 have h0 := h.p0
 have h1 := h.p1
 cases h0; cases h1
 exact ⟨hwf, rfl, rfl, rfl, h.cur⟩
theorem ofNat_succ (c : Nat) : UInt64.ofNat c + 1 = UInt64.ofNat (c + 1) := by
 apply UInt64.toNat_inj.1
 rw [UInt64.toNat_add, UInt64.toNat_ofNat', UInt64.toNat_ofNat', show (1 : UInt64).toNat = 1 from rfl]
 omega
end Go.Proofs.YtpnbpcopdckgpaaGreatDoor.E
namespace Go.Proofs.YtpnbpcopdckgpaaGreatDoor.E
open Go Go.RowKit V
set_option maxRecDepth 4000
theorem wr_eq {d : Dk} {k : Nat} {x : List UInt8} : (wrD k x d).left = d.left ∧ (wrD k x d).dead = d.dead := by
 unfold wrD; split <;> exact ⟨rfl, rfl⟩
theorem act0 {d : Dk} (h : d.left = 0) : actD d = d := by
 unfold actD; rw [if_neg (by omega)]
section
variable {G : List (Nat × Array Value)}
theorem save_cases {d : Dk} {c : Nat} {s t : List UInt8} (h : Good d c s) (ht : t.length ≤ 200) (hc : c + 1 < 250) :
  (∃ e, Pn e c s t ∧ e.dead = true ∧ FC Tryz.prog G 137 [.ptr 1 0, sA t] (djH d s (UInt64.ofNat c) false) (.v (.int .i64 120)) (djH e s (UInt64.ofNat c) true)) ∨
  (∃ e, Good e (c + 1) t ∧ FC Tryz.prog G 137 [.ptr 1 0, sA t] (djH d s (UInt64.ofNat c) false) (.v (.int .i64 0)) (djH e t (UInt64.ofNat (c + 1)) false)) := by
 have hs := ofNat_succ c
 have hk : (UInt64.ofNat c + 1).toNat % 2 = (c + 1) % 2 := by rw [hs, ofNat_toNat hc]
 have hp := (h.pend ht hc rfl).act
 obtain ⟨e1, he1⟩ : ∃ e1, e1 = actD (wrD ((c + 1) % 2) (layJ (UInt64.ofNat c + 1) t) d) := ⟨_, rfl⟩
 rw [← hs] at hp ⊢
 rw [← he1] at hp
 cases hd : e1.dead with
 | true => exact .inl ⟨e1, hp, hd, saveW_fc d h.wf h.dead s _ t ht _ hk e1 he1 hd⟩
 | false =>
  cases hd2 : (actD e1).dead with
  | true => exact .inl ⟨actD e1, hp.act, hd2, saveS_fc d h.wf h.dead s _ t ht _ hk e1 he1 hd hd2⟩
  | false => exact .inr ⟨_, hp.act.sync hd2, saveOk_fc d h.wf h.dead s _ t ht _ hk e1 he1 hd hd2⟩
theorem save_goes {d : Dk} {c : Nat} {s t : List UInt8} (h : Good d c s) (ht : t.length ≤ 200) (hc : c + 1 < 250) (h0 : d.left = 0) :
  ∃ e, Good e (c + 1) t ∧ e.left = 0 ∧ othS e (c + 1) = curS d c ∧ FC Tryz.prog G 137 [.ptr 1 0, sA t] (djH d s (UInt64.ofNat c) false) (.v (.int .i64 0)) (djH e t (UInt64.ofNat (c + 1)) false) := by
 have hs := ofNat_succ c
 have hk : (UInt64.ofNat c + 1).toNat % 2 = (c + 1) % 2 := by rw [hs, ofNat_toNat hc]
 have hp := h.pend ht hc rfl
 have hl : (wrD ((c + 1) % 2) (layJ (UInt64.ofNat c + 1) t) d).left = 0 := wr_eq.1.trans h0
 have hdd : (wrD ((c + 1) % 2) (layJ (UInt64.ofNat c + 1) t) d).dead = false := wr_eq.2.trans h.dead
 have a1 := act0 hl
 have hcu : othS (st1 256 (st0 256 (wrD ((c + 1) % 2) (layJ (UInt64.ofNat c + 1) t) d))) (c + 1) = curS d c ∧ (st1 256 (st0 256 (wrD ((c + 1) % 2) (layJ (UInt64.ofNat c + 1) t) d))).left = 0 := by
  have hp0 := h.p0
  have hp1 := h.p1
  obtain ⟨l0, l1, p0, p1, lf, dd⟩ := d
  cases hp0; cases hp1
  rcases Nat.mod_two_eq_zero_or_one c with hm | hm
  ·
   rw [show (c + 1) % 2 = 1 by omega] at hl ⊢
   rw [(cur_odd _ (show (c + 1) % 2 = 1 by omega)).2, (cur_even _ hm).1]
   exact ⟨rfl, hl⟩
  rw [show (c + 1) % 2 = 0 by omega] at hl ⊢
  rw [(cur_even _ (show (c + 1) % 2 = 0 by omega)).2, (cur_odd _ hm).1]
  exact ⟨rfl, hl⟩
 have hy := hp.sync (by rw [← hs]; exact hdd)
 have hf := saveOk_fc (G := G) d h.wf h.dead s (UInt64.ofNat c) t ht _ hk _ rfl (by rw [a1]; exact hdd) (by rw [a1, a1]; exact hdd)
 rw [a1, a1] at hf
 rw [← hs] at hy ⊢
 exact ⟨_, hy, hcu.2, hcu.1, hf⟩
theorem openG_fc {d : Dk} {c : Nat} {s : List UInt8} (h : Good d c s) : FC Tryz.prog G 50 [.ptr 0 0] (dkH d) (.ptr 1 0) (djH d s (UInt64.ofNat c) false) := by
 have := open_fc (G := G) d h.wf h.dead
 rw [h.opens] at this
 exact this
def pickW (c : Int) (n : Nat) : Nat := ((if c < 0 then -(c + 1) else c) % (n : Int)).toNat
theorem pickW_eq (c : Int) (n : Nat) (h : 0 < n) : ((pickW c n : Nat) : Int) = (if c < 0 then -(c + 1) else c) % (n : Int) := by
 unfold pickW
 exact Int.toNat_of_nonneg (Int.emod_nonneg _ (by omega))
theorem pickW_lt (c : Int) (n : Nat) (h : 0 < n) : pickW c n < n := by
 have h1 := pickW_eq c n h
 have h2 := Int.emod_lt_of_pos (if c < 0 then -(c + 1) else c) (show (0 : Int) < n by omega)
 omega
def textJ (s : List UInt8) : List UInt8 := s.take 200
theorem min200 (n : Nat) : (if (200 : Int) < (n : Int) then (200 : Int) else (n : Int)) = ((min n 200 : Nat) : Int) := by split <;> omega
def fullT (s : List UInt8) : List UInt8 := s.take 256 ++ List.replicate (256 - (s.take 256).length) 0
end
end Go.Proofs.YtpnbpcopdckgpaaGreatDoor.E
namespace Go.Proofs.YtpnbpcopdckgpaaGreatDoor.E
open Go Go.RowKit V
set_option maxRecDepth 4000
set_option maxRecDepth 4000
def vtA : Bool → AV
 | false => .v (.slice none 0 0)
 | true => .sl none 4 [sA [], sA [], sA [], sA []]
abbrev Bk := Txt × Txt × Bool
def bkA (p : Bk) : List AV := [sA p.1, sA p.2.1, vtA p.2.2]
theorem bkA_len (p : Bk) : (bkA p).length = 3 := rfl
@[simp] theorem ren_vt (π : Nat → Nat) (b : Bool) : AV.ren π (vtA b) = vtA b := by cases b <;> rfl
@[simp] theorem bel_vt (u : Nat → Bool) (b : Bool) : AV.bel u (vtA b) := by
 cases b
 · trivial
 exact ⟨(fun k hk => by cases hk), trivial, trivial, trivial, trivial, trivial⟩
@[simp] theorem renL_b1 (π : Nat → Nat) (p : Bk) : AV.renL π (bkA p) = bkA p := by
 show [sA p.1, sA p.2.1, AV.ren π (vtA p.2.2)] = _
 rw [ren_vt]
 rfl
@[simp] theorem renL_bks (π : Nat → Nat) : ∀ l : List Bk, AV.renL π (l.flatMap bkA) = l.flatMap bkA
 | [] => rfl
 | a :: l => by rw [List.flatMap_cons, renL_append, renL_bks π l, renL_b1]
@[simp] theorem belL_b1 (u : Nat → Bool) (p : Bk) : AV.belL u (bkA p) := ⟨trivial, trivial, bel_vt _ _, trivial⟩
@[simp] theorem belL_bks (u : Nat → Bool) : ∀ l : List Bk, AV.belL u (l.flatMap bkA)
 | [] => trivial
 | a :: l => by rw [List.flatMap_cons]; exact belL_app u _ _ (belL_b1 u a) (belL_bks u l)
theorem bks_app (l : List Bk) (p : Bk) : l.flatMap bkA ++ bkA p = (l ++ [p]).flatMap bkA := by
 rw [List.flatMap_append]
 simp
def ssA : Option (List Txt) → AV
 | none => .v (.slice none 0 0)
 | some l => .sl none l.length (l.map sA)
@[simp] theorem ren_ss (π : Nat → Nat) (o : Option (List Txt)) : AV.ren π (ssA o) = ssA o := by
 cases o
 · rfl
 show AV.sl none _ (AV.renL π _) = _
 rw [renL_s]
 rfl
@[simp] theorem bel_ss (u : Nat → Bool) (o : Option (List Txt)) : AV.bel u (ssA o) := by
 cases o
 · trivial
 exact ⟨(fun k hk => by cases hk), belL_s _ _⟩
theorem one_ss (o : Option (List Txt)) : (ssA o).one = true := by cases o <;> rfl
structure Nt where
 kind : Int
 fr : Int
 rcp : Int
 view : UInt64
 id : Txt
 pa : Txt
 pl : Txt
 sig : Txt
 sigs : Option (List Txt)
abbrev ntA (n : Nt) : List AV := [.v (.int .i64 n.kind), .v (.int .i64 n.fr), .v (.int .i64 n.rcp), .v (.int .u64 (U64 n.view)), sA n.id, sA n.pa, sA n.pl, sA n.sig, ssA n.sigs]
def nt0 : Nt := ⟨0, 0, 0, 0, [], [], [], [], none⟩
theorem nt_one (n : Nt) : ((ntA n).all fun c => c.one) = true := by
 show (true && (true && (true && (true && (true && (true && (true && (true && ((ssA n.sigs).one && true))))))))) = true
 rw [one_ss]
 rfl
theorem nt_bel (u : Nat → Bool) (n : Nt) : AV.belL u (ntA n) := ⟨trivial, trivial, trivial, trivial, trivial, trivial, trivial, trivial, bel_ss _ _, trivial⟩
structure Rp where
 d : Dk
 s : Txt
 c : UInt64
 lost : Bool
 tr : List TB
 bs : List Bk
 vo : UInt64
 lk : Nat
 lid : Txt
 me : Nat
 ks : List Txt
 seed : Txt
 n : Nat
 view : UInt64
 tm : List (Value × Value)
 prop : UInt64
 sg : List Txt
 dead : Bool
abbrev rpC (x : Rp) (b c : Nat) : List AV := [.ptr 3 0, .sl (some b) x.bs.length (x.bs.flatMap bkA), .v (.int .u64 (U64 x.vo)), .v (.int .i64 (x.lk : Int)), sA x.lid, .v (.int .i64 (x.me : Int)), .sl none x.ks.length (x.ks.flatMap vA), .ptr 6 0, .ptr 1 0,
 .v (.int .u64 (U64 x.view)), .v (.int .i64 0), .v (.slice none 0 0), .mp 8, .v (.int .i64 0), .v (.int .u64 (U64 x.prop)), .sl (some c) x.sg.length (x.sg.map sA), .v (.bool x.dead)]
abbrev kyC (x : Rp) : List AV := [sA x.seed, .v (.int .i64 5), .sl (some 7) (leavesT x.seed 5).length ((leavesT x.seed 5).map sA), .v (.int .i64 (x.n : Int))]
abbrev rpH (x : Rp) : List (Option AO) := [some (.cells 105 (dkC x.d)), some (.cells 129 (jC x.s x.c x.lost)), some (.cells 94 (rpC x 5 9)),
 some (.cells 140 [.sl (some 4) x.tr.length (x.tr.flatMap tbA)]), some (.tip 137 2 x.tr.length), some (.tip 97 3 x.bs.length),
 some (.cells 142 (kyC x)), some (.tip 9 1 (leavesT x.seed 5).length), some (.map x.tm), some (.tip 9 1 x.sg.length)]
abbrev rpL (x : Rp) : List (Option AO) := [some (.cells 105 (dkC x.d)), some (.cells 129 (jC x.s x.c x.lost)), some (.cells 94 (rpC x 11 9)),
 some (.cells 140 [.sl (some 10) x.tr.length (x.tr.flatMap tbA)]), none, none,
 some (.cells 142 (kyC x)), some (.tip 9 1 (leavesT x.seed 5).length), some (.map x.tm), some (.tip 9 1 x.sg.length),
 some (.tip 137 2 x.tr.length), some (.tip 97 3 x.bs.length)]
theorem bel_sl {u : Nat → Bool} {k n : Nat} {cs : List AV} (hk : u k = true) (hc : AV.belL u cs) : AV.bel u (.sl (some k) n cs) := ⟨fun j hj => by cases hj; exact hk, hc⟩
theorem rpC_bel (u : Nat → Bool) (x : Rp) (b c : Nat) (h1 : u 1 = true) (h3 : u 3 = true) (h6 : u 6 = true) (h8 : u 8 = true) (hb : u b = true) (hc : u c = true) : AV.belL u (rpC x b c) :=
 ⟨h3, bel_sl hb (belL_bks _ _), trivial, trivial, trivial, trivial, ⟨(fun k hk => by cases hk), belL_vs _ _⟩, h6, h1, trivial, trivial, trivial, h8, trivial, trivial, bel_sl hc (belL_s _ _), trivial, trivial⟩
theorem rp_bel (u : Nat → Bool) (h : ∀ i, i < 10 → u i = true) (x : Rp) : belH u (rpH x) :=
 ⟨dk_bel _ _, ⟨h 0 (by decide), trivial, trivial, trivial, trivial⟩, rpC_bel u x 5 9 (h 1 (by decide)) (h 3 (by decide)) (h 6 (by decide)) (h 8 (by decide)) (h 5 (by decide)) (h 9 (by decide)),
  ⟨bel_sl (h 4 (by decide)) (belL_tbs _ _), trivial⟩, trivial, trivial, ⟨trivial, trivial, bel_sl (h 7 (by decide)) (belL_s _ _), trivial, trivial⟩, trivial, trivial, trivial, trivial⟩
theorem blt10 : ∀ i, i < 10 → blt 10 i = true := fun i hi => blt_iff.2 hi
def idsT (l : List Bk) : List Txt := l.map (·.1)
theorem ids_get (l : List Bk) (m : Nat) (h : m < l.length) : (idsT l)[m]? = some (el l m).1 := by
 unfold idsT el
 rw [List.getElem?_map, List.getElem?_eq_getElem h]
 rfl
attribute [local irreducible] sum tag input beS rdNum rdText leavesT vtA ssA
section
variable {G : List (Nat × Array Value)}
theorem findC_fc (p : Bk) (id : Txt) : FP G 130 [.agg (bkA p), .sptr [sA id]] [] (.v (.bool (decide (p.1 = id)))) [] := by
 refine FC.of_wp [3] Tryz.func130 rfl rfl rfl rfl ⟨belL_b1 _ _, ⟨trivial, trivial⟩, trivial⟩ trivial (Nat.le_of_ble_eq_true rfl) ?_
 intro A hG hnA hAB
 unfold start
 refine WP.rs hG (Ch.p1 rfl (OpS.boxS) rfl (Ch.asg rfl rfl (Ch.nil (WP.rs hG (Ch.p1 rfl (OpS.fieldAddrS rfl rfl rfl rfl rfl) rfl (Ch.p1 rfl (OpS.loadS rfl rfl) rfl (Ch.p1 rfl (OpS.loadS rfl rfl) rfl (Ch.p2 rfl rfl (OpS.strEql) rfl (Ch.asg rfl rfl ?_)))))))))
 refine Ch.nil (WP.ret ?_)
 refine (Ret.of (rs := [3]) (vs := [.v (.bool (decide (p.1 = id)))]) (H' := []) (res := .v (.bool (decide (p.1 = id)))) [] ?_ ?_ rfl ?_ (by simp only [List.length_cons, List.length_nil]; decide) ?_).1
 · exact na_of hnA rfl
 · (repeat (first | exact trivial | (refine ⟨⟨(by trivial), _, rfl, .rfl _⟩, ?_⟩)))
 · (repeat (first | exact trivial | refine HFromL.skip ?_ | (refine ⟨⟨(by first | trivial | (simp; first | done | fail) | exact ⟨trivial, hbel _⟩), (by first | rfl | (simp; first | done | fail))⟩, ?_⟩)))
 rfl
theorem idxF_fc (l : List Bk) (id : Txt) (hl : l.length ≤ 1000) : FP G 129 [.sl none l.length (l.flatMap bkA), .fn (.func 130) [] [.sptr [sA id]]] [] (.v (.int .i64 (findT (idsT l) id))) [] := by
 have hfl := flatA_len bkA 3 bkA_len l
 obtain ⟨R, hR⟩ : ∃ R, R = findT (idsT l) id := ⟨_, rfl⟩
 rw [← hR]
 refine FC.of_wp [4] Tryz.func129 rfl rfl rfl rfl ⟨⟨(fun k hk => by cases hk), belL_bks _ _⟩, ⟨trivial, ⟨trivial, trivial⟩, trivial⟩, trivial⟩ trivial (Nat.le_of_ble_eq_true rfl) ?_
 intro A hG hnA hAB
 unfold start
 refine WP.rs hG (Ch.asg rfl rfl (Ch.nil (WP.seq (WP.rs hG (Ch.mv rfl rfl (Ch.p1 rfl (OpS.len rfl) rfl (Ch.mv rfl rfl (Ch.nil (WP.block ?_)))))))))
 refine WP.loop (fun k σ => ∃ m : Nat, (m + k = l.length ∧ ∀ j, j < m → (idsT l)[j]? ≠ some id) ∧ σ = ⟨19, ls [(0, .sl none l.length (l.flatMap bkA)), (1, .fn (.func 130) [] [.sptr [sA id]]), (7, .v (.int .i64 (l.length : Int))), (8, .v (.int .i64 (m : Int)))], lh [], blt 0⟩) (l.length) (Ent.of [] ?_ ?_ ?_ ?_).se ⟨0, ⟨by omega, fun j hj => absurd hj (Nat.not_lt_zero _)⟩, rfl⟩ ?_
 · exact na_of hnA rfl
 · (repeat (first | exact trivial | (refine ⟨⟨(by first | trivial | (simp; first | done | fail)), _, rfl, (by first | exact .rfl _ | exact .of_eq (by simp [renL_bks]; first | done | fail))⟩, ?_⟩)))
 · (repeat (first | exact trivial | (refine ⟨⟨rfl, (by first | trivial | (simp; first | done | fail) | exact ⟨trivial, hbel _⟩), (by first | rfl | (simp [renL_bks]; first | done | fail))⟩, ?_⟩)))
 · exact nd_of rfl
 rintro k σ ⟨m, ⟨hm', hno⟩, rfl⟩
 refine WP.rs hG (Ch.p2 rfl rfl (OpS.int rfl (by exact rfl)) rfl ?_)
 refine Ch.nil (WP.seq ?_)
 refine WP.cond rfl ?_ ?_
 ·
  intro ht
  have ht' := of_decide_eq_true ht
  have hget := ids_get l m (by omega)
  have fc := findC_fc (G := G) (el l m) id
  refine WP.skip (WP.seq (WP.block (WP.rs hG (Ch.mv rfl rfl (Ch.asg rfl rfl (Ch.nil (WP.rs hG (Ch.mv rfl rfl (Ch.mv rfl rfl ?_)))))))))
  refine Ch.mv rfl rfl (Ch.p2 rfl rfl (OpS.indexF rfl rfl rfl bkA_len (by decide) (Int.toNat_natCast _) (by omega) (by omega) rfl) rfl ?_)
  refine Ch.p1 rfl (OpS.loadSA rfl rfl rfl) rfl (Ch.callF (fc) gdN (EvL.cons rfl (EvL.cons rfl EvL.nil)) ((by exact ⟨.of_eq (show AV.agg (bkA (el l m)) = AV.agg (AV.renL _ (bkA (el l m))) by rw [renL_b1]), .rfl _, trivial⟩)) (by rfl) rfl ?_)
  refine Ch.nil ?_
  refine WP.cond rfl ?_ ?_
  ·
   intro ht
   have hx := of_decide_eq_true ht
   have e : R = (m : Int) := by rw [hR]; exact findT_at hno (by rw [hget, hx])
   refine WP.rs hG (Ch.mv rfl rfl (Ch.asg rfl rfl (Ch.nil (WP.ret ?_))))
   rw [e]
   refine (Ret.of (rs := [4]) (vs := [.v (.int .i64 (m : Int))]) (H' := []) (res := .v (.int .i64 (m : Int))) [] ?_ ?_ rfl ?_ (by simp only [List.length_cons, List.length_nil]; decide) ?_).1
   · exact na_of hnA rfl
   · (repeat (first | exact trivial | (refine ⟨⟨(by trivial), _, rfl, .rfl _⟩, ?_⟩)))
   · (repeat (first | exact trivial | refine HFromL.skip ?_ | (refine ⟨⟨(by first | trivial | (simp; first | done | fail) | exact ⟨trivial, hbel _⟩), (by first | rfl | (simp; first | done | fail))⟩, ?_⟩)))
   rfl
  intro ht
  have hx := of_decide_eq_false ht
  refine WP.skip (WP.rg hG (Ch.p2 rfl rfl (OpS.inc m (by omega) (by omega)) rfl ?_))
  refine Ch.mv rfl rfl (Ch.nil ?_)
  refine ⟨k - 1, _, by omega, (Ent.of [] ?_ ?_ ?_ ?_).se, m + 1, ⟨by omega, (fun j hj => by
   rcases Nat.lt_or_ge j m with h | h
   · exact hno j h
   obtain rfl : j = m := by omega
   rw [hget]
   intro he
   exact hx (Option.some.inj he))⟩, rfl⟩
  · exact na_of hnA rfl
  · (repeat (first | exact trivial | (refine ⟨⟨(by first | trivial | (simp; first | done | fail)), _, rfl, (by first | exact .rfl _ | exact .of_eq (by simp [renL_bks]; first | done | fail))⟩, ?_⟩)))
  · (repeat (first | exact trivial | (refine ⟨⟨rfl, (by first | trivial | (simp; first | done | fail) | exact ⟨trivial, hbel _⟩), (by first | rfl | (simp [renL_bks]; first | done | fail))⟩, ?_⟩)))
  exact nd_of rfl
 intro ht
 have ht' := of_decide_eq_false ht
 obtain rfl : m = l.length := by omega
 have e : R = -1 := by
  rw [hR]
  refine findT_no fun k hk => ?_
  have := (List.getElem?_eq_some_iff.1 hk).1
  exact hno k (by unfold idsT at this; rw [List.length_map] at this; omega) hk
 refine WP.exit (WP.rs hG (Ch.asg rfl rfl (Ch.nil (WP.ret ?_))))
 rw [e]
 refine (Ret.of (rs := [4]) (vs := [.v (.int .i64 (-1))]) (H' := []) (res := .v (.int .i64 (-1))) [] ?_ ?_ rfl ?_ (by simp only [List.length_cons, List.length_nil]; decide) ?_).1
 · exact na_of hnA rfl
 · (repeat (first | exact trivial | (refine ⟨⟨(by trivial), _, rfl, .rfl _⟩, ?_⟩)))
 · (repeat (first | exact trivial | refine HFromL.skip ?_ | (refine ⟨⟨(by first | trivial | (simp; first | done | fail) | exact ⟨trivial, hbel _⟩), (by first | rfl | (simp; first | done | fail))⟩, ?_⟩)))
 rfl
theorem find_fc (x : Rp) (id : Txt) (hl : x.bs.length ≤ 1000) : FP G 92 [.ptr 2 0, sA id] (rpH x) (.v (.int .i64 (findT (idsT x.bs) id))) (rpH x) := by
 have hf := idxF_fc (G := G) x.bs id hl
 refine FC.of_wp [4] Tryz.func92 rfl rfl rfl rfl ⟨rfl, trivial, trivial⟩ (rp_bel _ blt10 x) (Nat.le_of_ble_eq_true rfl) ?_
 intro A hG hnA hAB
 unfold start
 refine WP.rs hG (Ch.p1 rfl (OpS.boxS) rfl (Ch.asg rfl rfl (Ch.nil (WP.rs hG (Ch.mv rfl rfl (Ch.p1 rfl (OpS.nilCheckP) rfl (Ch.p1 rfl (OpS.fieldAddr rfl rfl rfl rfl) rfl (Ch.q1 rfl (OpS.loadP rfl rfl rfl) rfl rfl (Ch.mf gdN (by repeat (first | exact EvL.nil | (apply EvL.cons; exact rfl))) rfl ?_)))))))))
 refine Ch.callP (hf) gdN (.cons rfl (.cons rfl .nil)) (.c (AV.wk.sh (by simp; first | done | fail)) (.c (.rfl _) .n)) (by rfl) rfl ?_
 refine Ch.asg rfl rfl (Ch.nil (WP.ret ?_))
 refine (Ret.of (rs := [4]) (vs := [.v (.int .i64 (findT (idsT x.bs) id))]) (H' := rpH x) (res := .v (.int .i64 (findT (idsT x.bs) id))) [0, 1, 2, 3, 4, 5, 6, 7, 8, 9] ?_ ?_ rfl ?_ (by simp only [List.length_cons, List.length_nil]; decide) ?_).1
 · exact na_of hnA rfl
 · (repeat (first | exact trivial | (refine ⟨⟨(by trivial), _, rfl, .rfl _⟩, ?_⟩)))
 · (repeat (first | exact trivial | refine HFromL.skip ?_ | (refine ⟨⟨(by first | trivial | (simp; first | done | fail)), (by first | rfl | (simp [renL_tbs, renL_bks, renL_vs, pend_ren]; first | done | fail))⟩, ?_⟩)))
 rfl
end
end Go.Proofs.YtpnbpcopdckgpaaGreatDoor.E
namespace Go.Proofs.YtpnbpcopdckgpaaGreatDoor.E
open Go Go.RowKit V
set_option maxRecDepth 4000
set_option maxRecDepth 4000
attribute [local irreducible] sum tag input beS rdNum rdText leavesT f64 tb
section
variable {G : List (Nat × Array Value)}
theorem rView_fc (x : Rp) : FP G 27 [.ptr 2 0] (rpH x) (.v (.int .u64 (U64 x.view))) (rpH x) := by
 refine FC.of_wp [2] Tryz.func27 rfl rfl rfl rfl ⟨rfl, trivial⟩ (rp_bel _ blt10 x) (Nat.le_of_ble_eq_true rfl) ?_
 intro A hG hnA hAB
 unfold start
 refine WP.rs hG (Ch.asg rfl rfl (Ch.nil (WP.rs hG (Ch.mv rfl rfl (Ch.p1 rfl (OpS.nilCheckP) rfl (Ch.p1 rfl (OpS.fieldAddr rfl rfl rfl rfl) rfl (Ch.q1 rfl (OpS.loadP rfl rfl rfl) rfl rfl (Ch.asg rfl rfl (Ch.nil ?_)))))))))
 refine WP.ret ?_
 refine (Ret.of (rs := [2]) (vs := [.v (.int .u64 (U64 x.view))]) (H' := rpH x) (res := .v (.int .u64 (U64 x.view))) [0, 1, 2, 3, 4, 5, 6, 7, 8, 9] ?_ ?_ rfl ?_ (by simp only [List.length_cons, List.length_nil]; decide) ?_).1
 · exact na_of hnA rfl
 · (repeat (first | exact trivial | (refine ⟨⟨(by trivial), _, rfl, .rfl _⟩, ?_⟩)))
 · (repeat (first | exact trivial | refine HFromL.skip ?_ | (refine ⟨⟨(by first | trivial | (simp; first | done | fail)), (by first | rfl | (simp [renL_tbs, renL_bks, renL_vs, pend_ren]; first | done | fail))⟩, ?_⟩)))
 rfl
theorem rAlive_fc (x : Rp) : FP G 36 [.ptr 2 0] (rpH x) (.v (.bool (!x.dead))) (rpH x) := by
 refine FC.of_wp [2] Tryz.func36 rfl rfl rfl rfl ⟨rfl, trivial⟩ (rp_bel _ blt10 x) (Nat.le_of_ble_eq_true rfl) ?_
 intro A hG hnA hAB
 unfold start
 refine WP.rs hG (Ch.asg rfl rfl (Ch.nil (WP.rs hG (Ch.mv rfl rfl (Ch.p1 rfl (OpS.nilCheckP) rfl (Ch.p1 rfl (OpS.fieldAddr rfl rfl rfl rfl) rfl (Ch.q1 rfl (OpS.loadP rfl rfl rfl) rfl rfl (Ch.p1 rfl (OpS.not) rfl (Ch.asg rfl rfl ?_)))))))))
 refine Ch.nil (WP.ret ?_)
 refine (Ret.of (rs := [2]) (vs := [.v (.bool (!x.dead))]) (H' := rpH x) (res := .v (.bool (!x.dead))) [0, 1, 2, 3, 4, 5, 6, 7, 8, 9] ?_ ?_ rfl ?_ (by simp only [List.length_cons, List.length_nil]; decide) ?_).1
 · exact na_of hnA rfl
 · (repeat (first | exact trivial | (refine ⟨⟨(by trivial), _, rfl, .rfl _⟩, ?_⟩)))
 · (repeat (first | exact trivial | refine HFromL.skip ?_ | (refine ⟨⟨(by first | trivial | (simp; first | done | fail)), (by first | rfl | (simp [renL_tbs, renL_bks, renL_vs, pend_ren]; first | done | fail))⟩, ?_⟩)))
 rfl
theorem rGoes_fc (x : Rp) (v : UInt64) (v' : UInt64) (hv : (if U64 v > U64 x.view then U64 v else U64 x.view) = U64 v') : FP G 101 [.ptr 2 0, .v (.int .u64 (U64 v))] (rpH x) (.tup []) (rpH { x with view := v' }) := by
 refine FC.of_wp [] Tryz.func101 rfl rfl rfl rfl ⟨rfl, trivial, trivial⟩ (rp_bel _ blt10 x) (Nat.le_of_ble_eq_true rfl) ?_
 intro A hG hnA hAB
 unfold start
 refine WP.rg hG (Ch.mv rfl rfl (Ch.mv rfl rfl (Ch.p1 rfl (OpS.nilCheckP) rfl (Ch.p1 rfl (OpS.fieldAddr rfl rfl rfl rfl) rfl (Ch.q1 rfl (OpS.loadP rfl rfl rfl) rfl rfl (Ch.mv rfl rfl (Ch.p2 rfl rfl (OpS.maxI (c := U64 v') hv) rfl (Ch.p1 rfl (OpS.nilCheckP) rfl (Ch.p1 rfl (OpS.fieldAddr rfl rfl rfl rfl) rfl ?_)))))))))
 refine Ch.ws rfl rfl (OpS.storeP (cs := rpC x 5 9) rfl rfl rfl (by simp)) rfl ?_
 refine Ch.nil ?_
 refine (Ret.of (rs := []) (vs := []) (H' := rpH { x with view := v' }) (res := .tup []) [0, 1, 2, 3, 4, 5, 6, 7, 8, 9] ?_ ?_ rfl ?_ (by simp only [List.length_cons, List.length_nil]; decide) ?_).2
 · exact na_of hnA rfl
 · (repeat (first | exact trivial | (refine ⟨⟨(by first | trivial | (simp; first | done | fail) | exact ⟨trivial, hbel _⟩), _, rfl, (by first | exact .rfl _ | exact .nil | exact .of_eq (by simp [renL_tbs, renL_bks, renL_vs, pend_ren]; first | done | fail) | exact AV.wk.sh (by simp [renL_tbs, renL_bks, renL_vs, pend_ren]; first | done | fail) | exact .untip _ _ _)⟩, ?_⟩)))
 · (repeat (first | exact trivial | refine HFromL.skip ?_ | (refine ⟨⟨(by first | trivial | (simp; first | done | fail)), (by first | rfl | (simp [renL_tbs, renL_bks, renL_vs, pend_ren]; first | done | fail))⟩, ?_⟩)))
 exact ⟨_, rfl, rfl, by simp [ls, TsOk, List.zip, List.zipWith]⟩
theorem rCert0_fc (x : Rp) (ss : Option (List Txt)) : FP G 93 [.ptr 2 0, .v (.int .i64 0), ssA ss] (rpH x) (.v (.bool true)) (rpH x) := by
 refine FC.of_wp [6] Tryz.func93 rfl rfl rfl rfl ⟨rfl, trivial, bel_ss _ _, trivial⟩ (rp_bel _ blt10 x) (Nat.le_of_ble_eq_true rfl) ?_
 intro A hG hnA hAB
 unfold start
 refine WP.rs hG (Ch.asg rfl rfl (Ch.nil (WP.seq (WP.rs hG (Ch.mv rfl rfl (Ch.p2 rfl rfl (OpS.int (op := .eql) (v' := .bool true) rfl rfl) rfl (Ch.nil (WP.cond_true rfl (WP.rs hG ?_)))))))))
 refine Ch.asg rfl rfl (Ch.nil (WP.ret ?_))
 refine (Ret.of (rs := [6]) (vs := [.v (.bool true)]) (H' := rpH x) (res := .v (.bool true)) [0, 1, 2, 3, 4, 5, 6, 7, 8, 9] ?_ ?_ rfl ?_ (by simp only [List.length_cons, List.length_nil]; decide) ?_).1
 · exact na_of hnA rfl
 · (repeat (first | exact trivial | (refine ⟨⟨(by trivial), _, rfl, .rfl _⟩, ?_⟩)))
 · (repeat (first | exact trivial | refine HFromL.skip ?_ | (refine ⟨⟨(by first | trivial | (simp; first | done | fail)), (by first | rfl | (simp [renL_tbs, renL_bks, renL_vs, pend_ren]; first | done | fail))⟩, ?_⟩)))
 rfl
theorem rRaise0_fc (x : Rp) (ss : Option (List Txt)) (h0 : 0 < x.tr.length) (hl : x.tr.length ≤ 256) : FP G 95 [.ptr 2 0, .v (.int .i64 0), ssA ss] (rpH x) (.tup []) (rpH x) := by
 have hv := tView_fc (G := G) x.tr 0 h0 hl
 refine FC.of_wp [] Tryz.func95 rfl rfl rfl rfl ⟨rfl, trivial, bel_ss _ _, trivial⟩ (rp_bel _ blt10 x) (Nat.le_of_ble_eq_true rfl) ?_
 intro A hG hnA hAB
 unfold start
 refine WP.rsD (by kernel_rfl) hG (Ch.mv rfl rfl (Ch.p1 rfl (OpS.nilCheckP) rfl (Ch.p1 rfl (OpS.fieldAddr rfl rfl rfl rfl) rfl (Ch.p1 rfl (OpS.fieldAddr rfl rfl rfl rfl) rfl (Ch.q1 rfl (OpS.loadP rfl rfl rfl) rfl rfl (Ch.mv rfl rfl ?_))))))
 refine Ch.cH (hv) [3,4] 10 gdN (.cons rfl (.cons rfl .nil)) (.c (.rfl _) (.c (.rfl _) .n)) rfl (by refine ⟨?_, ?_, ?_, ?_⟩ <;> first | ((conv => lhs; simp only [nrmA, Nat.reduceAdd, renL_tbs, renL_tb1, renL_bks, renL_b1, renL_vs, renL_v1, ren_vt, pend_ren, ren_ss]); all_goals rfl) | rfl) (by exact ⟨rfl, rfl, trivial⟩) (by exact trivial) rfl ?_
 refine Ch.mv rfl rfl (Ch.p1 rfl (OpS.nilCheckP) rfl (Ch.p1 rfl (OpS.fieldAddr rfl rfl rfl rfl) rfl (Ch.p1 rfl (OpS.fieldAddr rfl rfl rfl rfl) rfl (Ch.q1 rfl (OpS.loadP rfl rfl rfl) rfl rfl (Ch.mv rfl rfl (Ch.p1 rfl (OpS.nilCheckP) rfl (Ch.p1 rfl (OpS.fieldAddr rfl rfl rfl rfl) rfl (Ch.q1 rfl (OpS.loadP rfl rfl rfl) rfl rfl ?_))))))))
 refine Ch.cH (hv) [3,4] 10 gdN (.cons rfl (.cons rfl .nil)) (.c (.rfl _) (.c (.rfl _) .n)) rfl (by refine ⟨?_, ?_, ?_, ?_⟩ <;> first | ((conv => lhs; simp only [nrmA, Nat.reduceAdd, renL_tbs, renL_tb1, renL_bks, renL_b1, renL_vs, renL_v1, ren_vt, pend_ren, ren_ss]); all_goals rfl) | rfl) (by exact ⟨rfl, rfl, trivial⟩) (by exact trivial) rfl ?_
 refine Ch.p2 rfl rfl (OpS.gtrF (by omega)) rfl ?_
 refine Ch.nilD ?_ (by kernel_rfl)
 refine WP.cond_false rfl (WP.skip ?_)
 refine (Ret.of (rs := []) (vs := []) (H' := rpH x) (res := .tup []) [0, 1, 2, 3, 4, 5, 6, 7, 8, 9] ?_ ?_ rfl ?_ (by simp only [List.length_cons, List.length_nil]; decide) ?_).2
 · exact na_of hnA rfl
 · (repeat (first | exact trivial | (refine ⟨⟨(by first | trivial | (simp; first | done | fail) | exact ⟨trivial, hbel _⟩), _, rfl, (by first | exact .rfl _ | exact .nil | exact .of_eq (by simp [renL_tbs, renL_bks, renL_vs, pend_ren]; first | done | fail) | exact AV.wk.sh (by simp [renL_tbs, renL_bks, renL_vs, pend_ren]; first | done | fail) | exact .untip _ _ _)⟩, ?_⟩)))
 · (repeat (first | exact trivial | refine HFromL.skip ?_ | (refine ⟨⟨(by first | trivial | (simp; first | done | fail)), (by first | rfl | (simp [renL_tbs, renL_bks, renL_vs, pend_ren]; first | done | fail))⟩, ?_⟩)))
 exact ⟨_, rfl, rfl, by simp [ls, TsOk, List.zip, List.zipWith]⟩
theorem rLearnK_fc (x : Rp) (p : Nat) (n : Nt) (j : Nat) (hj : findT (idsT x.bs) n.id = (j : Int)) (hl : x.bs.length ≤ 1000) : FP G 94 [.ptr 2 0, .v (.int .i64 (p : Int)), .agg (ntA n)] (rpH x) (.v (.int .i64 (j : Int))) (rpH x) := by
 have hf := find_fc (G := G) x n.id hl
 rw [hj] at hf
 refine FC.of_wp [6] Tryz.func94 rfl rfl rfl rfl ⟨rfl, trivial, nt_bel _ n, trivial⟩ (rp_bel _ blt10 x) (Nat.le_of_ble_eq_true rfl) ?_
 intro A hG hnA hAB
 unfold start
 refine WP.rs hG (Ch.p1 rfl (OpS.boxS) rfl (Ch.asg rfl rfl (Ch.nil (WP.seq (WP.rs hG (Ch.mv rfl rfl (Ch.p1 rfl (OpS.fieldAddrS rfl rfl rfl rfl rfl) rfl (Ch.p1 rfl (OpS.loadS rfl rfl) rfl ?_))))))))
 refine Ch.cH (hf) [0,1,2,3,4,5,6,7,8,9] 10 gdN (.cons rfl (.cons rfl .nil)) (.c (.rfl _) (.c (.rfl _) .n)) rfl (by refine ⟨?_, ?_, ?_, ?_⟩ <;> first | ((conv => lhs; simp only [nrmA, Nat.reduceAdd, renL_tbs, renL_tb1, renL_bks, renL_b1, renL_vs, renL_v1, ren_vt, pend_ren, ren_ss]); all_goals rfl) | rfl) (by exact ⟨rfl, rfl, rfl, rfl, rfl, rfl, rfl, rfl, rfl, rfl, trivial⟩) (by exact trivial) rfl ?_
 refine Ch.asg rfl rfl (Ch.nil (WP.rs hG (Ch.mv rfl rfl (Ch.p2 rfl rfl (OpS.geqT (by omega)) rfl ?_))))
 refine Ch.nil (WP.cond_true rfl (WP.rs hG (Ch.mv rfl rfl (Ch.asg rfl rfl (Ch.nil (WP.ret ?_))))))
 refine (Ret.of (rs := [6]) (vs := [.v (.int .i64 (j : Int))]) (H' := rpH x) (res := .v (.int .i64 (j : Int))) [0, 1, 2, 3, 4, 5, 6, 7, 8, 9] ?_ ?_ rfl ?_ (by simp only [List.length_cons, List.length_nil]; decide) ?_).1
 · exact na_of hnA rfl
 · (repeat (first | exact trivial | (refine ⟨⟨(by trivial), _, rfl, .rfl _⟩, ?_⟩)))
 · (repeat (first | exact trivial | refine HFromL.skip ?_ | (refine ⟨⟨(by first | trivial | (simp; first | done | fail)), (by first | rfl | (simp [renL_tbs, renL_bks, renL_vs, pend_ren]; first | done | fail))⟩, ?_⟩)))
 rfl
theorem rLearnN_fc (x : Rp) (p : Nat) (n : Nt) (hj : findT (idsT x.bs) n.id = -1) (hl : x.bs.length ≤ 1000) (hp : p < x.tr.length) (ht : x.tr.length < 256) (hh : htT x.tr p ≤ 255) (hv : (vwT x.tr p).toNat < n.view.toNat) (hlid : n.id ≠ x.lid) : FP G 94 [.ptr 2 0, .v (.int .i64 (p : Int)), .agg (ntA n)] (rpH x) (.v (.int .i64 (x.tr.length : Int))) (rpL { x with tr := x.tr ++ [(n.view, htT x.tr p + 1, p)], bs := x.bs ++ [(n.id, n.pl, true)] }) := by
 have hf := find_fc (G := G) x n.id hl
 rw [hj] at hf
 have ha := tAdd_fc (G := G) x.tr p n.view hp ht hh hv
 have eT : x.tr.length + 1 = (x.tr ++ [(n.view, htT x.tr p + 1, p)]).length := by simp
 have eB : x.bs.length + 1 = (x.bs ++ [((n.id, n.pl, true) : Bk)]).length := by simp
 have eF := bks_app x.bs (n.id, n.pl, true)
 refine FC.of_wp [6] Tryz.func94 rfl rfl rfl rfl ⟨rfl, trivial, nt_bel _ n, trivial⟩ (rp_bel _ blt10 x) (Nat.le_of_ble_eq_true rfl) ?_
 intro A hG hnA hAB
 unfold start
 refine WP.rs hG (Ch.p1 rfl (OpS.boxS) rfl (Ch.asg rfl rfl (Ch.nil (WP.seq (WP.rs hG (Ch.mv rfl rfl (Ch.p1 rfl (OpS.fieldAddrS rfl rfl rfl rfl rfl) rfl (Ch.p1 rfl (OpS.loadS rfl rfl) rfl ?_))))))))
 refine Ch.cH (hf) [0,1,2,3,4,5,6,7,8,9] 10 gdN (.cons rfl (.cons rfl .nil)) (.c (.rfl _) (.c (.rfl _) .n)) rfl (by refine ⟨?_, ?_, ?_, ?_⟩ <;> first | ((conv => lhs; simp only [nrmA, Nat.reduceAdd, renL_tbs, renL_tb1, renL_bks, renL_b1, renL_vs, renL_v1, ren_vt, pend_ren, ren_ss]); all_goals rfl) | rfl) (by exact ⟨rfl, rfl, rfl, rfl, rfl, rfl, rfl, rfl, rfl, rfl, trivial⟩) (by exact trivial) rfl ?_
 refine Ch.asg rfl rfl (Ch.nil (WP.rs hG (Ch.mv rfl rfl (Ch.p2 rfl rfl (OpS.geqF (by omega)) rfl ?_))))
 refine Ch.nil (WP.cond_false rfl (WP.skip (WP.rsD (by kernel_rfl) hG (Ch.mv rfl rfl (Ch.p1 rfl (OpS.nilCheckP) rfl (Ch.p1 rfl (OpS.fieldAddr rfl rfl rfl rfl) rfl (Ch.q1 rfl (OpS.loadP rfl rfl rfl) rfl rfl (Ch.mv rfl rfl (Ch.p1 rfl (OpS.fieldAddrS rfl rfl rfl rfl rfl) rfl ?_)))))))))
 refine Ch.p1 rfl (OpS.loadS rfl rfl) rfl ?_
 refine Ch.cH (ha) [3,4] 10 gdN (.cons rfl (.cons rfl (.cons rfl .nil))) (.c (.rfl _) (.c (.rfl _) (.c (.rfl _) .n))) rfl (by refine ⟨?_, ?_, ?_, ?_⟩ <;> first | ((conv => lhs; simp only [nrmA, Nat.reduceAdd, renL_tbs, renL_tb1, renL_bks, renL_b1, renL_vs, renL_v1, ren_vt, pend_ren, ren_ss]); all_goals rfl) | rfl) (by exact ⟨rfl, rfl, trivial⟩) (by exact ⟨rfl, trivial⟩) rfl ?_
 refine Ch.mv rfl rfl (Ch.p1 rfl (OpS.extract rfl) rfl (Ch.p1 rfl (OpS.extract rfl) rfl (Ch.asg rfl rfl (Ch.asg rfl rfl (Ch.nilD ?_ (by kernel_rfl))))))
 refine WP.seq (WP.rs hG (Ch.mv rfl rfl (Ch.p2 rfl rfl (OpS.int (op := .neq) (v' := .bool false) rfl rfl) rfl (Ch.nil (WP.cond_false rfl (WP.skip (WP.rsD (by kernel_rfl) hG (Ch.mv rfl rfl (Ch.mv rfl rfl ?_)))))))))
 refine Ch.p1 rfl (OpS.nilCheckP) rfl (Ch.p1 rfl (OpS.fieldAddr rfl rfl rfl rfl) rfl (Ch.q1 rfl (OpS.loadP rfl rfl rfl) rfl rfl (Ch.p1 rfl (OpS.fieldAddrS rfl rfl rfl rfl rfl) rfl (Ch.p1 rfl (OpS.loadS rfl rfl) rfl (Ch.p1 rfl (OpS.fieldAddrS rfl rfl rfl rfl rfl) rfl (Ch.p1 rfl (OpS.loadS rfl rfl) rfl (Ch.p2 rfl rfl (OpS.makeS (n := 4) (cs := [sA [], sA [], sA [], sA []]) rfl rfl rfl rfl rfl rfl rfl rfl rfl (by decide) (by decide)) rfl ?_)))))))
 refine Ch.pup gdN (by repeat (first | exact EvP.nil | (apply EvP.cons; exact rfl))) (OpS.build (cs := bkA (n.id, n.pl, true)) rfl rfl rfl rfl rfl (by rfl)) rfl ?_
 refine Ch.pup gdN (by repeat (first | exact EvP.nil | (apply EvP.cons; exact rfl))) (OpS.buildSlice (n := 1) (sz := 3) (cs := bkA (n.id, n.pl, true)) rfl rfl rfl rfl (by decide) (by decide) rfl rfl (by rfl) (by unfold maxLen; omega)) rfl ?_
 refine Ch.a2 rfl rfl (OpS.append (sz := 3) (bb := 56) 11 rfl rfl rfl rfl rfl (by decide) (SrcA.sl rfl (by exact rfl)) (flatA_len bkA 3 bkA_len x.bs) rfl (by unfold maxLen; omega) rfl (by omega)) rfl rfl rfl ?_
 refine Ch.p1 rfl (OpS.nilCheckP) rfl (Ch.p1 rfl (OpS.fieldAddr rfl rfl rfl rfl) rfl (Ch.ws rfl rfl (OpS.storeP (cs := rpC x 5 9) rfl rfl rfl (by simp)) rfl ?_))
 refine Ch.nilD ?_ (by kernel_rfl)
 refine WP.seq (WP.rsD (by kernel_rfl) hG (Ch.p1 rfl (OpS.fieldAddrS rfl rfl rfl rfl rfl) rfl (Ch.p1 rfl (OpS.loadS rfl rfl) rfl (Ch.mv rfl rfl (Ch.p1 rfl (OpS.nilCheckP) rfl (Ch.p1 rfl (OpS.fieldAddr rfl rfl rfl rfl) rfl (Ch.q1 rfl (OpS.loadP rfl rfl rfl) rfl rfl (Ch.p2 rfl rfl (OpS.strEqB (decide_eq_false hlid)) rfl (Ch.nilD ?_ (by kernel_rfl))))))))))
 refine WP.cond_false rfl (WP.skip (WP.rs hG (Ch.mv rfl rfl (Ch.asg rfl rfl (Ch.nil (WP.ret ?_))))))
 rw [eT, eB, eF]
 refine (Ret.of (rs := [6]) (vs := [.v (.int .i64 (x.tr.length : Int))]) (H' := rpL { x with tr := x.tr ++ [(n.view, htT x.tr p + 1, p)], bs := x.bs ++ [(n.id, n.pl, true)] }) (res := .v (.int .i64 (x.tr.length : Int))) [0, 1, 2, 3, 4, 5, 6, 7, 8, 9, 10, 11] ?_ ?_ rfl ?_ (by simp only [List.length_cons, List.length_nil]; decide) ?_).1
 · exact na_of hnA rfl
 · (repeat (first | exact trivial | (refine ⟨⟨(by trivial), _, rfl, .rfl _⟩, ?_⟩)))
 · (repeat (first | exact trivial | refine HFromL.skip ?_ | (refine ⟨⟨(by first | trivial | (simp; first | done | fail)), (by first | rfl | (simp [renL_tbs, renL_bks, renL_vs, pend_ren]; first | done | fail) | (conv => rhs; simp only [AO.ren, AV.ren, AV.renL, Option.map_some, renL_tbs, renL_bks, renL_vs, pend_ren]) <;> rfl)⟩, ?_⟩)))
 rfl
end
end Go.Proofs.YtpnbpcopdckgpaaGreatDoor.E
namespace Go.Proofs.YtpnbpcopdckgpaaGreatDoor.E
open Go Go.RowKit V
set_option maxRecDepth 4000
set_option maxRecDepth 4000
def rp0 (d : Dk) (s : Txt) (c : Nat) (v : UInt64) (me : Nat) (ks : List Txt) (seed : Txt) (n : Nat) : Rp :=
 ⟨d, s, UInt64.ofNat c, false, [(0, 0, 0)], [(firstT, [], false)], v, 0, firstT, me, ks, seed, n, 1, [], 0, [], false⟩
attribute [local irreducible] sum tag input beS rdNum rdText leavesT f64 tb loadT firstT
section
variable {G : List (Nat × Array Value)}
theorem rNewMe_fc (me : Nat) (hme : 4 ≤ me) (hm9 : me ≤ 1000) (ks : List Txt) (seed : Txt) (d : Dk) (c : Nat) (s : Txt) (hg : Good d c s) : FP G 23 [.v (.int .i64 (me : Int)), .sl none ks.length (ks.flatMap vA), sA seed, .ptr 0 0] (dkH d) (.v (.pointer none)) (dkH d) := by
 have ho := openG_fc (G := G) hg
 refine FC.of_wp [8] Tryz.func23 rfl rfl rfl rfl ⟨trivial, ⟨(fun k hk => by cases hk), belL_vs _ _⟩, trivial, rfl, trivial⟩ ⟨dk_bel _ _, trivial⟩ (Nat.le_of_ble_eq_true rfl) ?_
 intro A hG hnA hAB
 unfold start
 refine WP.rs hG (Ch.asg rfl rfl (Ch.nil (WP.rs hG (Ch.mv rfl rfl ?_))))
 refine Ch.cH (ho) [0] 1 gdN (.cons rfl .nil) (.c (.rfl _) .n) rfl (by refine ⟨?_, ?_, ?_, ?_⟩ <;> first | ((conv => lhs; simp only [nrmA, Nat.reduceAdd, renL_tbs, renL_tb1, renL_bks, renL_b1, renL_vs, renL_v1, ren_vt, pend_ren, ren_ss]); all_goals rfl) | rfl) (by exact ⟨rfl, trivial⟩) (by exact ⟨rfl, trivial⟩) rfl ?_
 refine Ch.asg rfl rfl (Ch.nil (WP.seq (WP.rs hG (Ch.mv rfl rfl (Ch.p2 rfl rfl (OpS.lssF (by omega)) rfl ?_)))))
 refine Ch.mv rfl rfl (Ch.gm rfl rfl rfl rfl (Ch.g2 rfl rfl rfl rfl (OpS.geqT (by omega)) rfl ?_))
 refine Ch.p2 rfl rfl (OpS.pickF) rfl (Ch.mv rfl rfl (Ch.skU (gdF rfl rfl rfl) rfl (Ch.skU (gdF rfl rfl rfl) rfl (Ch.skU (gdF rfl rfl rfl) rfl (Ch.p2 rfl rfl (OpS.pickT) rfl (Ch.mv rfl rfl (Ch.skU (gdF rfl rfl rfl) rfl (Ch.skU (gdF rfl rfl rfl) rfl (Ch.skU (gdF rfl rfl rfl) rfl ?_)))))))))
 refine Ch.p2 rfl rfl (OpS.pickT) rfl (Ch.mv rfl rfl (Ch.skU (gdF rfl rfl rfl) rfl (Ch.skU (gdF rfl rfl rfl) rfl (Ch.p2 rfl rfl (OpS.pickT) rfl (Ch.nil (WP.cond_true rfl (WP.rs hG (Ch.asg rfl rfl (Ch.nil ?_)))))))))
 refine WP.ret ?_
 refine (Ret.of (rs := [8]) (vs := [.v (.pointer none)]) (H' := dkH d) (res := .v (.pointer none)) [0] ?_ ?_ rfl ?_ (by simp only [List.length_cons, List.length_nil]; decide) ?_).1
 · exact na_of hnA rfl
 · (repeat (first | exact trivial | (refine ⟨⟨(by trivial), _, rfl, .rfl _⟩, ?_⟩)))
 · (repeat (first | exact trivial | refine HFromL.skip ?_ | (refine ⟨⟨(by (simp; first | done | fail)), (by (simp [pend_ren]; first | done | fail))⟩, ?_⟩)))
 rfl
theorem rNewLen_fc (me : Nat) (hm9 : me < 4) (ks : List Txt) (h4 : ks.length ≠ 4) (h9 : ks.length ≤ 1000) (seed : Txt) (d : Dk) (c : Nat) (s : Txt) (hg : Good d c s) : FP G 23 [.v (.int .i64 (me : Int)), .sl none ks.length (ks.flatMap vA), sA seed, .ptr 0 0] (dkH d) (.v (.pointer none)) (dkH d) := by
 have ho := openG_fc (G := G) hg
 refine FC.of_wp [8] Tryz.func23 rfl rfl rfl rfl ⟨trivial, ⟨(fun k hk => by cases hk), belL_vs _ _⟩, trivial, rfl, trivial⟩ ⟨dk_bel _ _, trivial⟩ (Nat.le_of_ble_eq_true rfl) ?_
 intro A hG hnA hAB
 unfold start
 refine WP.rs hG (Ch.asg rfl rfl (Ch.nil (WP.rs hG (Ch.mv rfl rfl ?_))))
 refine Ch.cH (ho) [0] 1 gdN (.cons rfl .nil) (.c (.rfl _) .n) rfl (by refine ⟨?_, ?_, ?_, ?_⟩ <;> first | ((conv => lhs; simp only [nrmA, Nat.reduceAdd, renL_tbs, renL_tb1, renL_bks, renL_b1, renL_vs, renL_v1, ren_vt, pend_ren, ren_ss]); all_goals rfl) | rfl) (by exact ⟨rfl, trivial⟩) (by exact ⟨rfl, trivial⟩) rfl ?_
 refine Ch.asg rfl rfl (Ch.nil (WP.seq (WP.rs hG (Ch.mv rfl rfl (Ch.p2 rfl rfl (OpS.lssF (by omega)) rfl ?_)))))
 refine Ch.mv rfl rfl (Ch.gm rfl rfl rfl rfl (Ch.g2 rfl rfl rfl rfl (OpS.geqF (by omega)) rfl ?_))
 refine Ch.p2 rfl rfl (OpS.pickF) rfl (Ch.mv rfl rfl (Ch.gm rfl rfl rfl rfl (Ch.g1 rfl rfl rfl (OpS.len rfl) rfl (Ch.g2 rfl rfl rfl rfl (OpS.neqT (by omega)) rfl ?_))))
 refine Ch.p2 rfl rfl (OpS.pickF) rfl (Ch.mv rfl rfl (Ch.skU (gdF rfl rfl rfl) rfl (Ch.skU (gdF rfl rfl rfl) rfl (Ch.skU (gdF rfl rfl rfl) rfl (Ch.p2 rfl rfl (OpS.pickT) rfl (Ch.mv rfl rfl (Ch.skU (gdF rfl rfl rfl) rfl (Ch.skU (gdF rfl rfl rfl) rfl (Ch.p2 rfl rfl (OpS.pickT) rfl ?_)))))))))
 refine Ch.nil (WP.cond_true rfl (WP.rs hG (Ch.asg rfl rfl (Ch.nil (WP.ret ?_)))))
 refine (Ret.of (rs := [8]) (vs := [.v (.pointer none)]) (H' := dkH d) (res := .v (.pointer none)) [0] ?_ ?_ rfl ?_ (by simp only [List.length_cons, List.length_nil]; decide) ?_).1
 · exact na_of hnA rfl
 · (repeat (first | exact trivial | (refine ⟨⟨(by trivial), _, rfl, .rfl _⟩, ?_⟩)))
 · (repeat (first | exact trivial | refine HFromL.skip ?_ | (refine ⟨⟨(by (simp; first | done | fail)), (by (simp [pend_ren]; first | done | fail))⟩, ?_⟩)))
 rfl
theorem rNew_fc (hm : ShaIn G) (me : Nat) (hme : me < 4) (ks : List Txt) (h4 : ks.length = 3 + 1) (h40 : ∀ x ∈ ks, x.length = 40) (hnd : ∀ i j, i < j → j < ks.length → el ks i ≠ el ks j) (seed : Txt) (hsd : seed.length ≤ 140737488355264) (d : Dk) (c : Nat) (s : Txt) (hg : Good d c s)
  (v : UInt64) (n : Nat) (hn : n ≤ 32) (hld : loadT s = (v, UInt64.ofNat n, firstT)) :
  FP G 23 [.v (.int .i64 (me : Int)), .sl none (3 + 1) (ks.flatMap vA), sA seed, .ptr 0 0] (dkH d) (.ptr 2 0) (rpH (rp0 d s c v me ks seed n)) := by
 have ho := openG_fc (G := G) hg
 have hr := cRight_fc (G := G) ks (by omega) (by omega) h40 hnd
 rw [h4] at hr
 have hla := last_fc (G := G) d s (UInt64.ofNat c) false
 have hs2 : s.length ≤ 200 := hg.cur.2.1
 have hlo := rLoad_fc hm s (by omega)
 rw [hld] at hlo
 have hcl := vClone_fc (G := G) ks 3 h4 (by decide)
 have hfi := rFirst_fc hm
 have hsg := sgNew_fc hm seed 5 n hsd (by decide) (by simpa using hn)
 have hu : U64 (UInt64.ofNat n) = (n : Int) := by
  unfold U64
  rw [UInt64.toNat_ofNat']
  omega
 have e0 : rpC (rp0 d s c v me ks seed n) 5 9 = [.ptr 3 0, .sl (some 5) 1 (bkA (firstT, [], false)), .v (.int .u64 (U64 v)), .v (.int .i64 0), sA firstT, .v (.int .i64 (me : Int)), .sl none (3 + 1) (ks.flatMap vA), .ptr 6 0, .ptr 1 0,
   .v (.int .u64 1), .v (.int .i64 0), .v (.slice none 0 0), .mp 8, .v (.int .i64 0), .v (.int .u64 0), .sl (some 9) 0 [], .v (.bool false)] := by
  show [_, AV.sl _ _ _, _, _, _, _, AV.sl none ks.length _, _, _, _, _, _, _, _, _, _, _] = _
  rw [h4]
  rfl
 refine FC.of_wp [8] Tryz.func23 rfl rfl rfl rfl ⟨trivial, ⟨(fun k hk => by cases hk), belL_vs _ _⟩, trivial, rfl, trivial⟩ ⟨dk_bel _ _, trivial⟩ (Nat.le_of_ble_eq_true rfl) ?_
 intro A hG hnA hAB
 unfold start
 refine WP.rs hG (Ch.asg rfl rfl (Ch.nil (WP.rs hG (Ch.mv rfl rfl ?_))))
 refine Ch.cH (ho) [0] 1 gdN (.cons rfl .nil) (.c (.rfl _) .n) rfl (by refine ⟨?_, ?_, ?_, ?_⟩ <;> first | ((conv => lhs; simp only [nrmA, Nat.reduceAdd, renL_tbs, renL_tb1, renL_bks, renL_b1, renL_vs, renL_v1, ren_vt, pend_ren, ren_ss]); all_goals rfl) | rfl) (by exact ⟨rfl, trivial⟩) (by exact ⟨rfl, trivial⟩) rfl ?_
 refine Ch.asg rfl rfl (Ch.nil (WP.seq (WP.rs hG (Ch.mv rfl rfl (Ch.p2 rfl rfl (OpS.lssF (by omega)) rfl ?_)))))
 refine Ch.mv rfl rfl (Ch.gm rfl rfl rfl rfl (Ch.g2 rfl rfl rfl rfl (OpS.geqF (by omega)) rfl ?_))
 refine Ch.p2 rfl rfl (OpS.pickF) rfl (Ch.mv rfl rfl (Ch.gm rfl rfl rfl rfl (Ch.g1 rfl rfl rfl (OpS.len rfl) rfl (Ch.g2 rfl rfl rfl rfl (OpS.int (op := .neq) (v' := .bool false) rfl rfl) rfl (Ch.p2 rfl rfl (OpS.pickF) rfl (Ch.mv rfl rfl (Ch.gm rfl rfl rfl rfl (Ch.callP (hr) (gdT rfl rfl) (.cons rfl .nil) (.c (AV.wk.sh (by simp; first | done | fail)) .n) (by rfl) rfl ?_))))))))
 refine Ch.g1 rfl rfl rfl (OpS.not) rfl (Ch.p2 rfl rfl (OpS.pickF) rfl (Ch.mv rfl rfl (Ch.gm rfl rfl rfl rfl (Ch.g2 rfl rfl rfl rfl (OpS.eqNil (.p _ _) rfl) rfl (Ch.p2 rfl rfl (OpS.pickF) rfl (Ch.nil (WP.cond_false rfl (WP.skip (WP.rs hG ?_)))))))))
 refine Ch.mv rfl rfl ?_
 refine Ch.cH (hla) [0,1] 2 gdN (.cons rfl .nil) (.c (.rfl _) .n) rfl (by refine ⟨?_, ?_, ?_, ?_⟩ <;> first | ((conv => lhs; simp only [nrmA, Nat.reduceAdd, renL_tbs, renL_tb1, renL_bks, renL_b1, renL_vs, renL_v1, ren_vt, pend_ren, ren_ss]); all_goals rfl) | rfl) (by exact ⟨rfl, rfl, trivial⟩) (by exact trivial) rfl ?_
 refine Ch.callP (hlo) gdN (.cons rfl .nil) (.c (.rfl _) .n) (by rfl) rfl ?_
 refine Ch.a0 (OpS.alloc 2 rfl rfl rfl) rfl rfl (Ch.ws rfl rfl (OpS.storePA (cs := [.v (.int .u64 0), .v (.int .u64 0), sA []]) (c := .agg [.v (.int .u64 (U64 v)), .v (.int .u64 (U64 (UInt64.ofNat n))), sA firstT]) rfl rfl rfl (by exact Nat.le_refl 3)) rfl ?_)
 refine Ch.nil (WP.rs hG (Ch.mv rfl rfl (Ch.mv rfl rfl (Ch.callS (hcl) gdN (.cons rfl .nil) (.c (AV.wk.sh (by simp; first | done | fail)) .n) (by simp) rfl ?_))))
 refine Ch.mv rfl rfl (Ch.a0 (OpS.makeMap 3) rfl rfl (Ch.pup gdN (by repeat (first | exact EvP.nil | (apply EvP.cons; exact rfl))) (OpS.build (cs := [.v (.pointer none), .v (.slice none 0 0), .v (.int .u64 0), .v (.int .i64 0), sA [], .v (.int .i64 (me : Int)), .sl none (3 + 1) (ks.flatMap vA), .v (.pointer none), .ptr 1 0, .v (.int .u64 1), .v (.int .i64 0), .v (.slice none 0 0), .mp 3, .v (.int .i64 0), .v (.int .u64 0), .v (.slice none 0 0), .v (.bool false)]) rfl rfl rfl rfl rfl (by rfl)) rfl ?_))
 refine Ch.a1 rfl (OpS.box 4 rfl) rfl rfl (Ch.asg rfl rfl (Ch.nil (WP.rsD (by kernel_rfl) hG (Ch.mv rfl rfl ?_))))
 refine Ch.cH (tNew_fc) [] 5 gdN .nil .n rfl (by refine ⟨?_, ?_, ?_, ?_⟩ <;> first | ((conv => lhs; simp only [nrmA, Nat.reduceAdd, renL_tbs, renL_tb1, renL_bks, renL_b1, renL_vs, renL_v1, ren_vt, pend_ren, ren_ss]); all_goals rfl) | rfl) (by exact trivial) (by exact ⟨rfl, rfl, trivial⟩) rfl ?_
 refine Ch.callP (hfi) gdN .nil .n (by rfl) rfl ?_
 refine Ch.pup gdN (by repeat (first | exact EvP.nil | (apply EvP.cons; exact rfl))) (OpS.build (cs := bkA (firstT, [], false)) rfl rfl rfl rfl rfl (by rfl)) rfl ?_
 refine Ch.alp gdN (by repeat (first | exact EvP.nil | (apply EvP.cons; exact rfl))) (OpS.buildSliceT (n := 1) (sz := 3) (cs := bkA (firstT, [], false)) 7 rfl rfl rfl rfl (by decide) (by decide) rfl rfl (by rfl) (by unfold maxLen; omega) rfl) (by exact ⟨rfl, trivial⟩) rfl ?_
 refine Ch.p1 rfl (OpS.fieldAddr rfl rfl rfl rfl) rfl (Ch.q1 rfl (OpS.loadP rfl rfl rfl) rfl rfl (Ch.pup gdN (by repeat (first | exact EvP.nil | (apply EvP.cons; exact rfl))) (OpS.build (cs := [.ptr 5 0, .sl (some 7) 1 (bkA (firstT, [], false)), .v (.int .u64 0), .v (.int .i64 0), sA firstT]) rfl rfl rfl rfl rfl (by rfl)) rfl ?_))
 refine Ch.p1 rfl (OpS.nilCheckP) rfl (Ch.p1 rfl (OpS.fieldAddr rfl rfl rfl rfl) rfl (Ch.ws rfl rfl (OpS.storePA (cs := [.v (.pointer none), .v (.slice none 0 0), .v (.int .u64 0), .v (.int .i64 0), sA [], .v (.int .i64 (me : Int)), .sl none (3 + 1) (ks.flatMap vA), .v (.pointer none), .ptr 1 0, .v (.int .u64 1), .v (.int .i64 0), .v (.slice none 0 0), .mp 3, .v (.int .i64 0), .v (.int .u64 0), .v (.slice none 0 0), .v (.bool false)]) (c := .agg [.ptr 5 0, .sl (some 7) 1 (bkA (firstT, [], false)), .v (.int .u64 0), .v (.int .i64 0), sA firstT]) rfl rfl rfl (by exact Nat.le_of_ble_eq_true rfl)) rfl ?_))
 refine Ch.nilD ?_ (by kernel_rfl)
 refine WP.rs hG (Ch.mv rfl rfl (Ch.p1 rfl (OpS.fieldAddr rfl rfl rfl rfl) rfl (Ch.q1 rfl (OpS.loadP rfl rfl rfl) rfl rfl (Ch.p1 rfl (OpS.nilCheckP) rfl (Ch.p1 rfl (OpS.fieldAddr rfl rfl rfl rfl) rfl (Ch.p1 rfl (OpS.fieldAddr rfl rfl rfl rfl) rfl (Ch.p1 rfl (OpS.fieldAddr rfl rfl rfl rfl) rfl (Ch.ws rfl rfl (OpS.storeP (cs := [.ptr 5 0, .sl (some 7) 1 (bkA (firstT, [], false)), .v (.int .u64 0), .v (.int .i64 0), sA firstT, .v (.int .i64 (me : Int)), .sl none (3 + 1) (ks.flatMap vA), .v (.pointer none), .ptr 1 0, .v (.int .u64 1), .v (.int .i64 0), .v (.slice none 0 0), .mp 3, .v (.int .i64 0), .v (.int .u64 0), .v (.slice none 0 0), .v (.bool false)]) rfl rfl rfl (by simp)) rfl ?_))))))))
 refine Ch.nil (WP.seq (WP.rsD (by kernel_rfl) hG (Ch.p1 rfl (OpS.fieldAddr rfl rfl rfl rfl) rfl (Ch.q1 rfl (OpS.loadP rfl rfl rfl) rfl rfl (Ch.callP (hfi) gdN .nil .n (by rfl) rfl ?_)))))
 refine Ch.p2 rfl rfl (OpS.strNeB (c := false) (by simp)) rfl ?_
 refine Ch.nilD ?_ (by kernel_rfl)
 refine WP.cond_false rfl (WP.skip (WP.rs hG (Ch.mv rfl rfl (Ch.mv rfl rfl (Ch.p1 rfl (OpS.fieldAddr rfl rfl rfl rfl) rfl (Ch.q1 rfl (OpS.loadP rfl rfl rfl) rfl rfl (Ch.p1 rfl (OpS.conv (v := .int .i64 (n : Int)) rfl rfl (by rw [hu]; exact wr64 (by omega))) rfl ?_)))))))
 refine Ch.cH (hsg) [] 8 gdN (.cons rfl (.cons rfl (.cons rfl .nil))) (.c (.rfl _) (.c (.rfl _) (.c (.rfl _) .n))) rfl (by refine ⟨?_, ?_, ?_, ?_⟩ <;> first | ((conv => lhs; simp only [nrmA, Nat.reduceAdd, renL_tbs, renL_tb1, renL_bks, renL_b1, renL_vs, renL_v1, ren_vt, pend_ren, ren_ss]); all_goals rfl) | rfl) (by exact trivial) (by exact ⟨rfl, rfl, trivial⟩) rfl ?_
 refine Ch.mv rfl rfl (Ch.p1 rfl (OpS.extract rfl) rfl (Ch.p1 rfl (OpS.extract rfl) rfl (Ch.p1 rfl (OpS.nilCheckP) rfl (Ch.p1 rfl (OpS.fieldAddr rfl rfl rfl rfl) rfl (Ch.ws rfl rfl (OpS.storeP (cs := [.ptr 5 0, .sl (some 7) 1 (bkA (firstT, [], false)), .v (.int .u64 (U64 v)), .v (.int .i64 0), sA firstT, .v (.int .i64 (me : Int)), .sl none (3 + 1) (ks.flatMap vA), .v (.pointer none), .ptr 1 0, .v (.int .u64 1), .v (.int .i64 0), .v (.slice none 0 0), .mp 3, .v (.int .i64 0), .v (.int .u64 0), .v (.slice none 0 0), .v (.bool false)]) rfl rfl rfl (by simp)) rfl ?_)))))
 refine Ch.nil (WP.from (SEnt.nilCell (id := 4) (off := 15) 10 9 1 rfl rfl rfl rfl) (WP.rs hG (Ch.mv rfl rfl (Ch.asg rfl rfl (Ch.nil (WP.ret ?_))))))
 show Ret A _ _ [some (.cells 105 (dkC d)), some (.cells 129 (jC s (UInt64.ofNat c) false)), some (.cells 94 (rpC (rp0 d s c v me ks seed n) 5 9)), _, _, _, _, _, _, _] _ _
 rw [e0]
 refine (Ret.of (rs := [8]) (vs := [.ptr 2 0]) (H' := [some (.cells 105 (dkC d)), some (.cells 129 (jC s (UInt64.ofNat c) false)), some (.cells 94 [.ptr 3 0, .sl (some 5) 1 (bkA (firstT, [], false)), .v (.int .u64 (U64 v)), .v (.int .i64 0), sA firstT, .v (.int .i64 (me : Int)), .sl none (3 + 1) (ks.flatMap vA), .ptr 6 0, .ptr 1 0, .v (.int .u64 1), .v (.int .i64 0), .v (.slice none 0 0), .mp 8, .v (.int .i64 0), .v (.int .u64 0), .sl (some 9) 0 [], .v (.bool false)]), some (.cells 140 [.sl (some 4) 1 (tbA (0, 0, 0))]), some (.tip 137 2 1), some (.tip 97 3 1), some (.cells 142 [sA seed, .v (.int .i64 5), .sl (some 7) (leavesT seed 5).length ((leavesT seed 5).map sA), .v (.int .i64 (n : Int))]), some (.tip 9 1 (leavesT seed 5).length), some (.map []), some (.tip 9 1 0)]) (res := .ptr 2 0) [0, 1, 4, 5, 6, 7, 8, 9, 3, 10] ?_ ?_ rfl ?_ (by simp only [List.length_cons, List.length_nil]; decide) ?_).1
 · exact na_of hnA rfl
 · (repeat (first | exact trivial | (refine ⟨⟨(by trivial), _, rfl, .rfl _⟩, ?_⟩)))
 · (repeat (first | exact trivial | refine HFromL.skip ?_ | (refine ⟨⟨(by first | trivial | (simp; first | done | fail)), (by first | rfl | (simp [renL_tbs, renL_tb1, renL_bks, renL_b1, renL_vs, pend_ren]; first | done | fail))⟩, ?_⟩)))
 rfl
end
end Go.Proofs.YtpnbpcopdckgpaaGreatDoor.E
namespace Go.Proofs.YtpnbpcopdckgpaaGreatDoor.E
open Go Go.RowKit V
set_option maxRecDepth 4000
set_option maxRecDepth 4000
abbrev rpS (x : Rp) : List (Option AO) := [some (.cells 105 (dkC x.d)), some (.cells 129 (jC x.s x.c x.lost)), some (.cells 94 (rpC x 5 10)),
 some (.cells 140 [.sl (some 4) x.tr.length (x.tr.flatMap tbA)]), some (.tip 137 2 x.tr.length), some (.tip 97 3 x.bs.length),
 some (.cells 142 (kyC x)), some (.tip 9 1 (leavesT x.seed 5).length), some (.map x.tm), none, some (.tip 9 1 x.sg.length)]
theorem max_r {a b : UInt64} (h : a.toNat ≤ b.toNat) : (if U64 b > U64 a then U64 b else U64 a) = U64 b := by
 have ha : U64 a = (a.toNat : Int) := rfl
 have hb : U64 b = (b.toNat : Int) := rfl
 split <;> omega
def voteN (x : Rp) (n : Nt) : Nt := ⟨2, (x.me : Int), (leadT (n.view + 1) : Int), n.view, n.id, [], [], sigT x.seed 5 x.n (ballotT n.id), none⟩
theorem succ_nat {v : UInt64} (h : v.toNat ≤ 4611686018427387904) : (v + 1).toNat = v.toNat + 1 := by
 rw [UInt64.toNat_add, show (1 : UInt64).toNat = 1 from rfl]
 omega
attribute [local irreducible] sum tag input beS rdNum rdText leavesT f64 tb sigT firstT leadT mayT
section
variable {G : List (Nat × Array Value)}
theorem rCastV_fc (x : Rp) (b : Nat) (n : Nt) (h : n.view.toNat < x.view.toNat) : FP G 98 [.ptr 2 0, .v (.int .i64 (b : Int)), .agg (ntA n)] (rpH x) (.tup [.agg (ntA nt0), .v (.bool false)]) (rpH x) := by
 have e1 : U64 n.view = (n.view.toNat : Int) := rfl
 have e2 : U64 x.view = (x.view.toNat : Int) := rfl
 refine FC.of_wpc [(6, some 46), (7, none)] Tryz.func98 rfl rfl rfl rfl (by exact ⟨_, rfl, ⟨_, _, rfl, rfl, rfl, rfl⟩, trivial, trivial⟩) ⟨rfl, trivial, nt_bel _ n, trivial⟩ (rp_bel _ blt10 x) (Nat.le_of_ble_eq_true rfl) ?_
 intro A hG hnA hAB
 unfold start
 refine WP.rs hG (Ch.p1 rfl (OpS.boxS) rfl (Ch.a0 (OpS.alloc 10 rfl rfl rfl) rfl rfl (Ch.asg rfl rfl (Ch.nil (WP.seq (WP.block (WP.rsD (by kernel_rfl) hG (Ch.p1 rfl (OpS.fieldAddrS rfl rfl rfl rfl rfl) rfl (Ch.p1 rfl (OpS.loadS rfl rfl) rfl ?_)))))))))
 refine Ch.mv rfl rfl (Ch.p1 rfl (OpS.nilCheckP) rfl (Ch.p1 rfl (OpS.fieldAddr rfl rfl rfl rfl) rfl (Ch.q1 rfl (OpS.loadP rfl rfl rfl) rfl rfl (Ch.p2 rfl rfl (OpS.lssT (by omega)) rfl ?_))))
 refine Ch.asg rfl rfl (Ch.nilD ?_ (by kernel_rfl))
 refine WP.cond_true rfl (WP.rs hG (Ch.pup gdN (by repeat (first | exact EvP.nil | (apply EvP.cons; exact rfl))) (OpS.build (cs := ntA nt0) rfl rfl rfl rfl rfl (by rfl)) rfl ?_))
 refine Ch.ws rfl rfl (OpS.storePA (cs := ntA nt0) (c := .agg (ntA nt0)) rfl rfl rfl (by exact Nat.le_refl 9)) rfl ?_
 refine Ch.asg rfl rfl (Ch.nil (WP.from (SEnt.frz (t := 6) rfl rfl) (WP.ret ?_)))
 refine (Ret.of (rs := [6, 7]) (vs := [.sptr (ntA nt0), .v (.bool false)]) (H' := rpH x) (res := .tup [.sptr (ntA nt0), .v (.bool false)]) [0, 1, 2, 3, 4, 5, 6, 7, 8, 9] ?_ ?_ rfl ?_ (by simp only [List.length_cons, List.length_nil]; decide) ?_).1
 · exact na_of hnA rfl
 · (repeat (first | exact trivial | (refine ⟨⟨(by trivial), _, rfl, .rfl _⟩, ?_⟩)))
 · (repeat (first | exact trivial | refine HFromL.skip ?_ | (refine ⟨⟨(by first | trivial | (simp; first | done | fail)), (by first | rfl | (simp [renL_tbs, renL_bks, renL_vs, pend_ren]; first | done | fail))⟩, ?_⟩)))
 exact ⟨_, rfl, rfl, by simp [ls, TsOk, List.zip, List.zipWith]⟩
theorem rCastM_fc (x : Rp) (hw : WfT x.tr) (b : Nat) (hb : b < x.tr.length) (hk : x.lk < x.tr.length) (n : Nt) (h : ¬ n.view.toNat < x.view.toNat) (hn : x.n < 32) (hm : mayT x.tr x.vo x.lk b = false) : FP G 98 [.ptr 2 0, .v (.int .i64 (b : Int)), .agg (ntA n)] (rpH x) (.tup [.agg (ntA nt0), .v (.bool false)]) (rpH x) := by
 have e1 : U64 n.view = (n.view.toNat : Int) := rfl
 have e2 : U64 x.view = (x.view.toNat : Int) := rfl
 have fs := sgSpent_fc (G := G) x.seed 5 x.n (leavesT x.seed 5)
 have fm := tMay_fc (G := G) x.tr hw x.vo x.lk b hk hb
 rw [hm] at fm
 refine FC.of_wpc [(6, some 46), (7, none)] Tryz.func98 rfl rfl rfl rfl (by exact ⟨_, rfl, ⟨_, _, rfl, rfl, rfl, rfl⟩, trivial, trivial⟩) ⟨rfl, trivial, nt_bel _ n, trivial⟩ (rp_bel _ blt10 x) (Nat.le_of_ble_eq_true rfl) ?_
 intro A hG hnA hAB
 unfold start
 refine WP.rs hG (Ch.p1 rfl (OpS.boxS) rfl (Ch.a0 (OpS.alloc 10 rfl rfl rfl) rfl rfl (Ch.asg rfl rfl (Ch.nil (WP.seq (WP.block (WP.rsD (by kernel_rfl) hG (Ch.p1 rfl (OpS.fieldAddrS rfl rfl rfl rfl rfl) rfl (Ch.p1 rfl (OpS.loadS rfl rfl) rfl ?_)))))))))
 refine Ch.mv rfl rfl (Ch.p1 rfl (OpS.nilCheckP) rfl (Ch.p1 rfl (OpS.fieldAddr rfl rfl rfl rfl) rfl (Ch.q1 rfl (OpS.loadP rfl rfl rfl) rfl rfl (Ch.p2 rfl rfl (OpS.lssF (by omega)) rfl ?_))))
 refine Ch.asg rfl rfl (Ch.nilD ?_ (by kernel_rfl))
 refine WP.cond_false rfl (WP.rs hG (Ch.mv rfl rfl (Ch.p1 rfl (OpS.nilCheckP) rfl (Ch.p1 rfl (OpS.fieldAddr rfl rfl rfl rfl) rfl (Ch.q1 rfl (OpS.loadP rfl rfl rfl) rfl rfl ?_)))))
 refine Ch.cH (fs) [6,7] 11 gdN (.cons rfl .nil) (.c (.rfl _) .n) rfl (by refine ⟨?_, ?_, ?_, ?_⟩ <;> first | ((conv => lhs; simp only [nrmA, Nat.reduceAdd, renL_tbs, renL_tb1, renL_bks, renL_b1, renL_vs, renL_v1, ren_vt, pend_ren, ren_ss]); all_goals rfl) | rfl) (by exact ⟨rfl, rfl, trivial⟩) (by exact trivial) rfl ?_
 refine Ch.p2 rfl rfl (OpS.geqF (by omega)) rfl ?_
 refine Ch.asg rfl rfl (Ch.nil (WP.cond_false rfl (WP.rsD (by kernel_rfl) hG (Ch.mv rfl rfl (Ch.p1 rfl (OpS.nilCheckP) rfl (Ch.p1 rfl (OpS.fieldAddr rfl rfl rfl rfl) rfl (Ch.p1 rfl (OpS.fieldAddr rfl rfl rfl rfl) rfl (Ch.q1 rfl (OpS.loadP rfl rfl rfl) rfl rfl (Ch.mv rfl rfl ?_)))))))))
 refine Ch.p1 rfl (OpS.nilCheckP) rfl (Ch.p1 rfl (OpS.fieldAddr rfl rfl rfl rfl) rfl (Ch.p1 rfl (OpS.fieldAddr rfl rfl rfl rfl) rfl (Ch.q1 rfl (OpS.loadPA (off := 2) (sz := 2) (cs := rpC x 5 9) rfl rfl rfl rfl (by exact Nat.le_of_ble_eq_true rfl)) rfl rfl ?_)))
 refine Ch.mv rfl rfl ?_
 refine Ch.cH (fm) [3,4] 11 gdN (.cons rfl (.cons rfl (.cons rfl .nil))) (.c (.rfl _) (.c (.rfl _) (.c (.rfl _) .n))) rfl (by refine ⟨?_, ?_, ?_, ?_⟩ <;> first | ((conv => lhs; simp only [nrmA, Nat.reduceAdd, renL_tbs, renL_tb1, renL_bks, renL_b1, renL_vs, renL_v1, ren_vt, pend_ren, ren_ss]); all_goals rfl) | rfl) (by exact ⟨rfl, rfl, trivial⟩) (by exact trivial) rfl ?_
 refine Ch.p1 rfl (OpS.not) rfl (Ch.asg rfl rfl (Ch.nilD ?_ (by kernel_rfl)))
 refine WP.cond_true rfl (WP.rs hG (Ch.pup gdN (by repeat (first | exact EvP.nil | (apply EvP.cons; exact rfl))) (OpS.build (cs := ntA nt0) rfl rfl rfl rfl rfl (by rfl)) rfl ?_))
 refine Ch.ws rfl rfl (OpS.storePA (cs := ntA nt0) (c := .agg (ntA nt0)) rfl rfl rfl (by exact Nat.le_refl 9)) rfl ?_
 refine Ch.asg rfl rfl (Ch.nil (WP.from (SEnt.frz (t := 6) rfl rfl) (WP.ret ?_)))
 refine (Ret.of (rs := [6, 7]) (vs := [.sptr (ntA nt0), .v (.bool false)]) (H' := rpH x) (res := .tup [.sptr (ntA nt0), .v (.bool false)]) [0, 1, 2, 3, 4, 5, 6, 7, 8, 9] ?_ ?_ rfl ?_ (by simp only [List.length_cons, List.length_nil]; decide) ?_).1
 · exact na_of hnA rfl
 · (repeat (first | exact trivial | (refine ⟨⟨(by trivial), _, rfl, .rfl _⟩, ?_⟩)))
 · (repeat (first | exact trivial | refine HFromL.skip ?_ | (refine ⟨⟨(by first | trivial | (simp; first | done | fail)), (by first | rfl | (simp [renL_tbs, renL_bks, renL_vs, pend_ren]; first | done | fail))⟩, ?_⟩)))
 exact ⟨_, rfl, rfl, by simp [ls, TsOk, List.zip, List.zipWith]⟩
end
end Go.Proofs.YtpnbpcopdckgpaaGreatDoor.E
