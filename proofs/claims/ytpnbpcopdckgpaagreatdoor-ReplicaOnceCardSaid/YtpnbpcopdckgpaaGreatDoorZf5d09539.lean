import Derived.Test.YtpnbpcopdckgpaaGreatDoorZ22294edb
import Derived.Test.YtpnbpcopdckgpaaGreatDoorZa48715c1
import Derived.Test.YtpnbpcopdckgpaaGreatDoorZced322b1
import Derived.Test.YtpnbpcopdckgpaaGreatDoorZ7a091fc5
section
namespace Go.Proofs.YtpnbpcopdckgpaaGreatDoor.E
open Go Go.RowKit Go.Proofs.YtpnbpcopdckgpaaGreatDoor.V
set_option maxRecDepth 4000
structure RI (x : Rp) (c : Nat) : Prop where
 good : Good x.d c x.s
 hc : x.c = UInt64.ofNat c
 lost : x.lost = false
 ld : loadT x.s = (x.vo, UInt64.ofNat x.n, firstT)
 wf : WfT x.tr
 bl : x.bs.length = x.tr.length
 b0 : (el x.bs 0).1 = firstT
 up : ∀ b, b < x.tr.length → prT x.tr b = 0 ∧ (vwT x.tr b).toNat ≤ x.vo.toNat
 lk : x.lk = 0
 lid : x.lid = firstT
 view : x.view.toNat ≤ x.vo.toNat + 1
 dead : x.dead = false
structure PN (n : Nt) : Prop where
 kind : n.kind = 1
 fr : n.fr = (leadT n.view : Int)
 pl : n.pl.length ≤ 200
 pa : n.pa = firstT
 id : n.id = idT n.view n.pa n.pl
 pos : 0 < n.view.toNat
 le : n.view.toNat ≤ 1000000
def learnR (x : Rp) (n : Nt) : Rp := { x with tr := x.tr ++ [(n.view, 1, 0)], bs := x.bs ++ [(n.id, n.pl, true)] }
def voteR (x : Rp) (n : Nt) (e : Dk) (c : Nat) : Rp := { learnR x n with d := e, s := recT n.view (x.n + 1) firstT, c := UInt64.ofNat c, lost := false, vo := n.view, lk := 0, lid := firstT, n := x.n + 1, sg := x.sg ++ [ballotT n.id], view := n.view + 1 }
def dieR (x : Rp) (n : Nt) (e : Dk) : Rp := { learnR x n with d := e, lost := true, dead := true }
theorem com_none {l : List TB} (h : ∀ b, b < l.length → prT l b = 0) {b : Nat} (hb : b < l.length) : comT l b = -1 := by
 unfold comT
 by_cases h0 : b = 0
 · exact if_pos h0
 ·
  rw [if_neg h0]
  exact comK_f (okT_f (fun hh => hh.1 (h b hb)))
theorem find_first {x : Rp} {c : Nat} (h : RI x c) : findT (idsT x.bs) firstT = ((0 : Nat) : Int) := by
 have hp := h.wf.pos
 refine findT_at (fun k hk => absurd hk (Nat.not_lt_zero _)) ?_
 rw [ids_get x.bs 0 (by rw [h.bl]; exact hp), h.b0]
theorem learnR_eq {x : Rp} (h : WfT x.tr) (n : Nt) : { x with tr := x.tr ++ [(n.view, htT x.tr 0 + 1, 0)], bs := x.bs ++ [(n.id, n.pl, true)] } = learnR x n := by
 unfold learnR
 rw [h.ht_0]
theorem learn_wf {x : Rp} (h : WfT x.tr) (n : Nt) (hl : x.tr.length < 256) : WfT (learnR x n).tr := by
 have := h.add n.view h.pos hl
 rw [h.ht_0] at this
 exact this
theorem learn_len (x : Rp) (n : Nt) : (learnR x n).tr.length = x.tr.length + 1 := by
 unfold learnR
 simp
theorem learn_up {x : Rp} {n : Nt} {m : Nat} (h : ∀ b, b < x.tr.length → prT x.tr b = 0 ∧ (vwT x.tr b).toNat ≤ m) (hn : n.view.toNat ≤ m) : ∀ b, b < (learnR x n).tr.length → prT (learnR x n).tr b = 0 ∧ (vwT (learnR x n).tr b).toNat ≤ m := by
 intro b hb
 rw [learn_len] at hb
 rcases Nat.lt_or_ge b x.tr.length with hlt | hge
 ·
  have := h b hlt
  unfold prT vwT at this ⊢
  show (tb (x.tr ++ [_]) b).2.2 = 0 ∧ (tb (x.tr ++ [_]) b).1.toNat ≤ m
  rw [tb_app x.tr _ hlt]
  exact this
 ·
  obtain rfl : b = x.tr.length := by omega
  unfold prT vwT
  show (tb (x.tr ++ [_]) _).2.2 = 0 ∧ (tb (x.tr ++ [_]) _).1.toNat ≤ m
  rw [tb_new]
  exact ⟨rfl, hn⟩
theorem learn_vw (x : Rp) (n : Nt) : vwT (learnR x n).tr x.tr.length = n.view := by
 unfold vwT
 show (tb (x.tr ++ [_]) _).1 = _
 rw [tb_new]
theorem learn_b0 {x : Rp} {c : Nat} (h : RI x c) (n : Nt) : (el (learnR x n).bs 0).1 = firstT := by
 have hp : 0 < x.bs.length := by rw [h.bl]; exact h.wf.pos
 have e : el (learnR x n).bs 0 = el x.bs 0 := by
  unfold el learnR
  show ((x.bs ++ [_])[0]?).getD _ = _
  rw [List.getElem?_append_left hp]
 rw [e]
 exact h.b0
theorem may_new {x : Rp} {n : Nt} (hw : WfT (learnR x n).tr) (hp : ∀ b, b < (learnR x n).tr.length → prT (learnR x n).tr b = 0) (h0 : 0 < x.tr.length) (hv : x.vo.toNat < n.view.toNat) : mayT (learnR x n).tr x.vo 0 x.tr.length = true := by
 have hb : x.tr.length < (learnR x n).tr.length := by rw [learn_len]; omega
 have hpr := hp _ hb
 rw [may_e (by omega) (by rw [learn_vw]; omega) (by rw [hpr]; exact Nat.lt_irrefl _)]
 unfold extT
 have hh := (hw.up x.tr.length h0 hb).2
 rw [hpr, hw.ht_0] at hh
 rw [hh, hw.ht_0]
 refine decide_eq_true ?_
 show 0 = upT _ 1 _
 unfold upT
 rw [hpr]
 rfl
theorem lk_new {x : Rp} {n : Nt} (hw : WfT (learnR x n).tr) (hp : ∀ b, b < (learnR x n).tr.length → prT (learnR x n).tr b = 0) (hk : x.lk = 0) : lkT (learnR x n) x.tr.length = 0 := by
 have hb : x.tr.length < (learnR x n).tr.length := by rw [learn_len]; omega
 have hg : gpT (learnR x n).tr x.tr.length = 0 := by
  unfold gpT
  rw [hp _ hb, hw.pr_0]
 unfold lkT
 rw [hg, show (learnR x n).lk = 0 from hk, if_neg (Nat.lt_irrefl _)]
theorem find_len {x : Rp} {id : Txt} {j : Nat} (h : findT (idsT x.bs) id = (j : Int)) : j < x.bs.length := by
 rcases findT_cases (idsT x.bs) id with ⟨h1, -⟩ | ⟨k, h1, h2, -⟩
 ·
  rw [h] at h1
  omega
 ·
  rw [h] at h1
  unfold idsT at h2
  rw [List.length_map] at h2
  omega
attribute [local irreducible] sum tag input beS rdNum rdText leavesT f64 tb sigT firstT leadT mayT lkT recT idT learnR
section
variable {G : List (Nat × Array Value)}
theorem step_rec (hsha : ShaIn G) {x : Rp} {c : Nat} (h : RI x c) {n : Nt} (hn : PN n) (hc : c + 1 < 250) (hx : x.n < 32) (hl : x.tr.length < 256) (hsg : x.sg.length ≤ 1000) (hsd : x.seed.length ≤ 1000) :
  ((∃ j : Nat, findT (idsT x.bs) n.id = (j : Int)) ∧ FP G 30 [.ptr 2 0, .agg (ntA n)] (rpH x) (.tup [.agg (ntA nt0), .v (.bool false)]) (rpH x)) ∨
  (findT (idsT x.bs) n.id = -1 ∧ n.view.toNat ≤ x.vo.toNat ∧ FP G 30 [.ptr 2 0, .agg (ntA n)] (rpH x) (.tup [.agg (ntA nt0), .v (.bool false)]) (rpL (learnR x n))) ∨
  (findT (idsT x.bs) n.id = -1 ∧ x.vo.toNat < n.view.toNat ∧ ∃ e, Good e (c + 1) (recT n.view (x.n + 1) firstT) ∧ (x.d.left = 0 → e.left = 0) ∧ FP G 30 [.ptr 2 0, .agg (ntA n)] (rpH x) (.tup [.agg (ntA (voteN (learnR x n) n)), .v (.bool true)]) (rpV (voteR x n e (c + 1)))) ∨
  (findT (idsT x.bs) n.id = -1 ∧ x.vo.toNat < n.view.toNat ∧ x.d.left ≠ 0 ∧ ∃ e, Pn e c x.s (recT n.view (x.n + 1) firstT) ∧ e.dead = true ∧ FP G 30 [.ptr 2 0, .agg (ntA n)] (rpH x) (.tup [.agg (ntA nt0), .v (.bool false)]) (rpL (dieR x n e))) := by
 obtain ⟨k1, k2, k3, k4, k5, k6, k7⟩ := hn
 have hpos := h.wf.pos
 have hpa : findT (idsT x.bs) n.pa = ((0 : Nat) : Int) := by rw [k4]; exact find_first h
 have hpal : n.pa.length ≤ 1000 := by rw [k4, firstT_32]; decide
 have hbs : x.bs.length ≤ 1000 := by rw [h.bl]; omega
 have hv0 : vwT x.tr 0 = 0 := h.wf.vw_0
 have hid32 : n.id.length = 32 := by rw [k5]; exact idT_32 _ _ _
 rcases findT_cases (idsT x.bs) n.id with ⟨hf, hno⟩ | ⟨j, hf, hj, -⟩
 ·
  refine .inr ?_
  have hne : n.id ≠ x.lid := by
   intro he
   rw [h.lid] at he
   have := find_first h
   rw [← he, hf] at this
   omega
  have hw1 := learn_wf h.wf n hl
  have hll := learn_len x n
  have fl := rLearnN_fc (G := G) x 0 n hf hbs hpos hl (by rw [h.wf.ht_0]; decide) (by rw [hv0]; exact k6) hne
  rw [learnR_eq h.wf n] at fl
  have hb : x.tr.length < (learnR x n).tr.length := by omega
  rcases Nat.lt_or_ge x.vo.toNat n.view.toNat with hlt | hge
  ·
   refine .inr ?_
   have hup := learn_up (x := x) (n := n) (m := n.view.toNat) (fun b hb => ⟨(h.up b hb).1, Nat.le_trans (h.up b hb).2 (Nat.le_of_lt hlt)⟩) (Nat.le_refl _)
   have hp1 : ∀ b, b < (learnR x n).tr.length → prT (learnR x n).tr b = 0 := fun b hb => (hup b hb).1
   have hcom := com_none hp1 hb
   have hm := may_new hw1 hp1 hpos hlt
   have hlk := lk_new hw1 hp1 h.lk
   have hr := recT_length n.view (x.n + 1) firstT
   rw [firstT_32] at hr
   have hview : ¬ n.view.toNat < x.view.toNat := by have := h.view; omega
   have hel : (el (learnR x n).bs (lkT (learnR x n) x.tr.length)).1 = firstT := by rw [hlk]; exact learn_b0 h n
   have hbl : (learnR x n).bs.length = (learnR x n).tr.length := by
    have := h.bl
    unfold learnR
    simp [this]
   have hkk : (learnR x n).lk < (learnR x n).tr.length := by
    rw [show (learnR x n).lk = x.lk by unfold learnR; rfl, h.lk]; omega
   have em : mayT (learnR x n).tr (learnR x n).vo (learnR x n).lk x.tr.length = true := by
    rw [show (learnR x n).lk = x.lk by unfold learnR; rfl, show (learnR x n).vo = x.vo by unfold learnR; rfl, h.lk]
    exact hm
   have en : (learnR x n).n = x.n := by unfold learnR; rfl
   have esg : (learnR x n).sg = x.sg := by unfold learnR; rfl
   have esd : (learnR x n).seed = x.seed := by unfold learnR; rfl
   have evw : (learnR x n).view = x.view := by unfold learnR; rfl
   have eds : (learnR x n).d = x.d ∧ (learnR x n).s = x.s ∧ (learnR x n).c = x.c ∧ (learnR x n).lost = x.lost := by unfold learnR; exact ⟨rfl, rfl, rfl, rfl⟩
   have hle2 : n.view.toNat ≤ 4611686018427387904 := by omega
   have goY : ∀ e, FP G 137 [.ptr 1 0, sA (recT n.view (x.n + 1) firstT)] (djH x.d x.s (UInt64.ofNat c) false) (.v (.int .i64 0)) (djH e (recT n.view (x.n + 1) firstT) (UInt64.ofNat (c + 1)) false) →
     FP G 30 [.ptr 2 0, .agg (ntA n)] (rpH x) (.tup [.agg (ntA (voteN (learnR x n) n)), .v (.bool true)]) (rpV (voteR x n e (c + 1))) := by
    intro e fs
    have fc := rCastY_fc hsha (learnR x n) hw1 x.tr.length hb hkk n (by rw [evw]; exact hview) hle2 (by rw [en]; exact hx) em hbl firstT hel (by rw [firstT_32]; decide) (by rw [hid32]; decide) (by rw [esg]; omega) (by rw [esd]; omega) e (recT n.view (x.n + 1) firstT) (UInt64.ofNat (c + 1)) false (by rw [eds.1, eds.2.1, eds.2.2.1, eds.2.2.2, h.hc, h.lost, en]; exact fs)
    rw [learn_vw, hlk, en, esg] at fc
    have fo := rOnV_fc hsha x (learnR x n) (voteR x n e (c + 1)) n (voteN (learnR x n) n) true x.tr.length hbs hpa k2 k3 hpal k5 ⟨hpos, by omega⟩ hv0 k6 ⟨by omega, by omega⟩ hw1 hb hcom fl fc
    exact rRecV_fc x _ n _ true k1 h.dead hle2 fo
   have goD : ∀ e, FP G 137 [.ptr 1 0, sA (recT n.view (x.n + 1) firstT)] (djH x.d x.s (UInt64.ofNat c) false) (.v (.int .i64 120)) (djH e x.s (UInt64.ofNat c) true) →
     FP G 30 [.ptr 2 0, .agg (ntA n)] (rpH x) (.tup [.agg (ntA nt0), .v (.bool false)]) (rpL (dieR x n e)) := by
    intro e fs
    have fc := rCastD_fc (G := G) (learnR x n) hw1 x.tr.length hb hkk n (by rw [evw]; exact hview) (by rw [en]; exact hx) em hbl firstT hel (by rw [firstT_32]; decide) e x.s (UInt64.ofNat c) true (by rw [eds.1, eds.2.1, eds.2.2.1, eds.2.2.2, h.hc, h.lost, en]; exact fs)
    have ee : ({ learnR x n with d := e, s := x.s, c := UInt64.ofNat c, lost := true, dead := true } : Rp) = dieR x n e := by
     unfold dieR
     rw [show (x.s) = (learnR x n).s from eds.2.1.symm, ← h.hc, ← eds.2.2.1]
    rw [ee] at fc
    have fo := rOnL_fc hsha x (learnR x n) (dieR x n e) n nt0 false x.tr.length hbs hpa k2 k3 hpal k5 ⟨hpos, by omega⟩ hv0 k6 ⟨by omega, by omega⟩ hw1 hb hcom fl fc
    exact rRecL_fc x _ n _ false k1 h.dead hle2 fo
   by_cases hleft : x.d.left = 0
   ·
    obtain ⟨e, ge, he0, -, fs⟩ := save_goes (G := G) h.good (t := recT n.view (x.n + 1) firstT) (by omega) hc hleft
    exact .inl ⟨hf, hlt, e, ge, fun _ => he0, goY e fs⟩
   ·
    rcases save_cases (G := G) h.good (t := recT n.view (x.n + 1) firstT) (by omega) hc with ⟨e, hp, hde, fs⟩ | ⟨e, ge, fs⟩
    · exact .inr ⟨hf, hlt, hleft, e, hp, hde, goD e fs⟩
    · exact .inl ⟨hf, hlt, e, ge, fun h0 => absurd h0 hleft, goY e fs⟩
  ·
   refine .inl ⟨hf, hge, ?_⟩
   have hup := learn_up (x := x) (n := n) (m := x.vo.toNat) h.up hge
   have hp1 : ∀ b, b < (learnR x n).tr.length → prT (learnR x n).tr b = 0 := fun b hb => (hup b hb).1
   have hcom := com_none hp1 hb
   have hle2 : n.view.toNat ≤ 4611686018427387904 := by omega
   have evw : (learnR x n).view = x.view := by unfold learnR; rfl
   have en : (learnR x n).n = x.n := by unfold learnR; rfl
   have hkk : (learnR x n).lk < (learnR x n).tr.length := by
    rw [show (learnR x n).lk = x.lk by unfold learnR; rfl, h.lk]; omega
   have fc : FP G 98 [.ptr 2 0, .v (.int .i64 (x.tr.length : Int)), .agg (ntA n)] (rpH (learnR x n)) (.tup [.agg (ntA nt0), .v (.bool false)]) (rpH (learnR x n)) := by
    by_cases hvv : n.view.toNat < x.view.toNat
    · exact rCastV_fc (learnR x n) x.tr.length n (by rw [evw]; exact hvv)
    ·
     refine rCastM_fc (learnR x n) hw1 x.tr.length hb hkk n (by rw [evw]; exact hvv) (by rw [en]; exact hx) ?_
     refine may_f ?_
     rw [learn_vw, show (learnR x n).vo = x.vo by unfold learnR; rfl]
     exact hge
   have fo := rOnL_fc hsha x (learnR x n) (learnR x n) n nt0 false x.tr.length hbs hpa k2 k3 hpal k5 ⟨hpos, by omega⟩ hv0 k6 ⟨by omega, by omega⟩ hw1 hb hcom fl fc
   exact rRecL_fc x _ n _ false k1 h.dead hle2 fo
 ·
  refine .inl ⟨⟨j, hf⟩, ?_⟩
  have hj' : j < x.tr.length := by have := find_len hf; rw [h.bl] at this; exact this
  have hp1 : ∀ b, b < x.tr.length → prT x.tr b = 0 := fun b hb => (h.up b hb).1
  have hcom := com_none hp1 hj'
  have hle2 : n.view.toNat ≤ 4611686018427387904 := by omega
  have fl := rLearnK_fc (G := G) x 0 n j hf hbs
  have fc : FP G 98 [.ptr 2 0, .v (.int .i64 (j : Int)), .agg (ntA n)] (rpH x) (.tup [.agg (ntA nt0), .v (.bool false)]) (rpH x) := by
   by_cases hvv : n.view.toNat < x.view.toNat
   · exact rCastV_fc x j n hvv
   · exact rCastM_fc x h.wf j hj' (by rw [h.lk]; exact hpos) n hvv hx (may_f (h.up j hj').2)
  have fo := rOnK_fc hsha x x x n nt0 false j hbs hpa k2 k3 hpal k5 ⟨hpos, by omega⟩ hv0 k6 ⟨hpos, by omega⟩ h.wf hj' hcom fl fc
  exact rRecK_fc x _ n _ false k1 h.dead hle2 fo
theorem RI.learn {x : Rp} {c : Nat} (h : RI x c) {n : Nt} (hl : x.tr.length < 256) (hv : n.view.toNat ≤ x.vo.toNat) : RI (learnR x n) c := by
 have hb0 := learn_b0 h n
 have hw := learn_wf h.wf n hl
 have hup := learn_up (x := x) (n := n) (m := x.vo.toNat) h.up hv
 have hbl : (learnR x n).bs.length = (learnR x n).tr.length := by
  have := h.bl
  unfold learnR
  simp [this]
 unfold learnR at hb0 hw hup hbl ⊢
 exact ⟨h.good, h.hc, h.lost, h.ld, hw, hbl, hb0, hup, h.lk, h.lid, h.view, h.dead⟩
theorem RI.vote {x : Rp} {c : Nat} (h : RI x c) {n : Nt} {e : Dk} (hl : x.tr.length < 256) (hx : x.n < 32) (hle : n.view.toNat ≤ 1000000) (hv : x.vo.toNat < n.view.toNat) (ge : Good e (c + 1) (recT n.view (x.n + 1) firstT)) : RI (voteR x n e (c + 1)) (c + 1) := by
 have hb0 := learn_b0 h n
 have hw := learn_wf h.wf n hl
 have hup := learn_up (x := x) (n := n) (m := n.view.toNat) (fun b hb => ⟨(h.up b hb).1, Nat.le_trans (h.up b hb).2 (Nat.le_of_lt hv)⟩) (Nat.le_refl _)
 have hbl : (learnR x n).bs.length = (learnR x n).tr.length := by
  have := h.bl
  unfold learnR
  simp [this]
 have hs := succ_nat (v := n.view) (by omega)
 have hld := load_rec n.view (x.n + 1) firstT (by rw [firstT_32]; decide) (by omega)
 have hd := h.dead
 unfold voteR
 unfold learnR at hb0 hw hup hbl ⊢
 exact ⟨ge, rfl, rfl, hld, hw, hbl, hb0, hup, rfl, rfl, by show (n.view + 1).toNat ≤ n.view.toNat + 1; omega, hd⟩
theorem RI.new {d : Dk} {c : Nat} {s : Txt} (hg : Good d c s) (v : UInt64) (me : Nat) (ks : List Txt) (seed : Txt) (n : Nat) (hld : loadT s = (v, UInt64.ofNat n, firstT)) : RI (rp0 d s c v me ks seed n) c :=
 ⟨hg, rfl, rfl, hld, wf_one, rfl, rfl, (fun b hb => by
  obtain rfl : b = 0 := by simpa [rp0] using hb
  refine ⟨wf_one.pr_0, ?_⟩
  rw [show vwT (rp0 d s c v me ks seed n).tr 0 = 0 from wf_one.vw_0]
  exact Nat.zero_le _), rfl, rfl, (by show (1 : UInt64).toNat ≤ _; exact Nat.le_add_left _ _), rfl⟩
end
end Go.Proofs.YtpnbpcopdckgpaaGreatDoor.E
end
section
namespace Go.Proofs.YtpnbpcopdckgpaaGreatDoor.V
theorem id_unlike_F : sumF (input 12 [beS 1 8, sumF (input 12 []), [112]]) ≠ sumF (input 12 []) := by decide +kernel
theorem id_unlike : idT 1 firstT [112] ≠ firstT := by
 unfold idT firstT
 rw [tag_fast, tag_fast]
 exact id_unlike_F
end Go.Proofs.YtpnbpcopdckgpaaGreatDoor.V
end
section
namespace Go.Proofs.YtpnbpcopdckgpaaGreatDoor.E
open Go Go.RowKit Go.Proofs.YtpnbpcopdckgpaaGreatDoor.V
set_option maxRecDepth 4000
set_option maxRecDepth 4000
--NRM renL_tbs, renL_tb1, renL_bks, renL_b1, renL_vs, renL_v1, ren_vt, pend_ren, ren_ss
--NUK 9
--WKX exact AV.wk.sh (renL_tk _) | exact .of_eq (ren_ss _ _).symm | exact .of_eq (ren_nt _ _).symm | exact .of_eq (ren_spt _ _).symm
theorem keys_take : ((keysP 4).flatMap vA).take (3 * 2) = (keysP 3).flatMap vA := by
 have h := flatA_len vA 2 vA_len (keysP 3)
 rw [keysP_len] at h
 rw [keysP_succ 3, List.flatMap_append]
 exact List.take_left' h
theorem renL_tk (π : Nat → Nat) : AV.renL π (((keysP 4).flatMap vA).take (3 * 2)) = ((keysP 4).flatMap vA).take (3 * 2) := by
 rw [keys_take]
 exact renL_vs _ _
theorem RI.prop {x : Rp} {c : Nat} (h : RI x c) (p : UInt64) : RI { x with prop := p } c := ⟨h.good, h.hc, h.lost, h.ld, h.wf, h.bl, h.b0, h.up, h.lk, h.lid, h.view, h.dead⟩
theorem RI.turn {x : Rp} {c : Nat} (h : RI x c) : (el x.bs 0).1 = firstT ∧ 0 < x.bs.length := ⟨h.b0, by rw [h.bl]; exact h.wf.pos⟩
theorem find_one {id : Txt} {j : Nat} (h : findT [firstT] id = (j : Int)) : id = firstT := by
 rcases findT_cases [firstT] id with ⟨h1, -⟩ | ⟨k, h1, h2, h3⟩
 ·
  rw [h] at h1
  omega
 ·
  have h2' : k < 1 := h2
  obtain rfl : k = 0 := by omega
  simpa using h3.symm
theorem find_last {l : List Bk} {p : Bk} : findT (idsT (l ++ [p])) p.1 ≠ -1 := by
 intro h
 rcases findT_cases (idsT (l ++ [p])) p.1 with ⟨-, h2⟩ | ⟨k, h1, -, -⟩
 ·
  refine h2 l.length ?_
  unfold idsT
  simp
 ·
  rw [h] at h1
  omega
attribute [local irreducible] sum tag input beS rdNum rdText leavesT f64 tb sigT firstT leadT mayT lkT recT idT learnR voteR dieR keysP keyT propN turnN voteN ballotT
section
variable {G : List (Nat × Array Value)}
theorem new0_fc (hm : ShaIn G) : FP G 23 [.v (.int .i64 0), .sl none 4 ((keysP 4).flatMap vA), sA [114, 97], .ptr 0 0] (dkH (nd 2)) (.ptr 2 0) (rpH (rp0 (nd 2) [] 0 0 0 (keysP 4) [114, 97] 0)) :=
 rNew_fc hm 0 (by decide) (keysP 4) (keysP_len 4) keys40 keys_nd [114, 97] (by decide) (nd 2) 0 [] good_new 0 0 (by decide) load_nil
theorem new4_fc : FP G 23 [.v (.int .i64 4), .sl none 4 ((keysP 4).flatMap vA), sA [114, 97], .ptr 0 0] (dkH (nd 2)) (.v (.pointer none)) (dkH (nd 2)) := by
 have h := rNewMe_fc (G := G) 4 (by decide) (by decide) (keysP 4) [114, 97] (nd 2) 0 [] good_new
 rw [keysP_len] at h
 exact h
theorem new3_fc : FP G 23 [.v (.int .i64 0), .sl none 3 (((keysP 4).flatMap vA).take (3 * 2)), sA [114, 97], .ptr 0 0] (dkH (nd 2)) (.v (.pointer none)) (dkH (nd 2)) := by
 have h := rNewLen_fc (G := G) 0 (by decide) (keysP 3) (by rw [keysP_len]; decide) (by rw [keysP_len]; decide) [114, 97] (nd 2) 0 [] good_new
 rw [keysP_len] at h
 rw [keys_take]
 exact h
theorem lead1 : leadT 1 = 0 := by with_unfolding_all rfl
theorem lead2 : leadT 2 = 0 := by with_unfolding_all rfl
theorem lead4 : leadT 4 = 1 := by with_unfolding_all rfl
theorem learn_bs (x : Rp) (n : Nt) : (learnR x n).bs = x.bs ++ [(n.id, n.pl, true)] := by with_unfolding_all rfl
theorem awake_run (hsha : ShaIn G) : ∃ x1 x2 x3 : Rp, ∃ n v t : Nt,
  (n.view = 1 ∧ n.pa = firstT ∧ n.id = idT 1 firstT [112]) ∧ (v.kind = 2 ∧ v.rcp = 0) ∧ t.view = 3 ∧
  FP G 29 [.ptr 2 0, sA [112]] (rpH (rp0 (nd 2) [] 0 0 0 (keysP 4) [114, 97] 0)) (.tup [.agg (ntA n), .v (.bool true)]) (rpH x1) ∧
  FP G 30 [.ptr 2 0, .agg (ntA n)] (rpH x1) (.tup [.agg (ntA v), .v (.bool true)]) (rpV x2) ∧
  FP G 30 [.ptr 2 0, .agg (ntA n)] (rpH x2) (.tup [.agg (ntA nt0), .v (.bool false)]) (rpH x2) ∧
  FP G 28 [.ptr 2 0] (rpH x2) (.tup [.agg (ntA t), .v (.bool true)]) (rpH x3) ∧
  FP G 27 [.ptr 2 0] (rpH x3) (.v (.int .u64 3)) (rpH x3) ∧
  FP G 34 [.ptr 2 0] (rpH x3) (.sl none 1 (x3.sg.map sA)) (rpH x3) ∧
  FP G 36 [.ptr 2 0] (rpH x3) (.v (.bool true)) (rpH x3) := by
 obtain ⟨x0, h0⟩ : ∃ x, x = rp0 (nd 2) [] 0 0 0 (keysP 4) [114, 97] 0 := ⟨_, rfl⟩
 rw [← h0]
 have r0 : RI x0 0 := by rw [h0]; exact RI.new good_new 0 0 (keysP 4) [114, 97] 0 load_nil
 have hv : x0.view = 1 := by rw [h0]; rfl
 have hp : x0.prop = 0 := by rw [h0]; rfl
 have hme : x0.me = 0 := by rw [h0]; rfl
 have hbs0 : x0.bs = [(firstT, [], false)] := by rw [h0]; rfl
 have hvo : x0.vo = 0 := by rw [h0]; rfl
 have hl : x0.d.left = 0 := by rw [h0]; rfl
 have hn0 : x0.n = 0 := by rw [h0]; rfl
 have htr : x0.tr.length = 1 := by rw [h0]; rfl
 have hsg : x0.sg = [] := by rw [h0]; rfl
 have hsd : x0.seed.length = 2 := by rw [h0]; rfl
 have fP := rPropV_fc hsha x0 r0.dead firstT [112] r0.turn.2 r0.turn.1 (by rw [firstT_32]; decide) (by rw [hv, hme]; exact lead1) (by decide) (by rw [hp, hv]; decide) ⟨by omega, by omega⟩ r0.wf.vw_0 hv
 have r1 := r0.prop x0.view
 obtain ⟨x1, h1⟩ : ∃ y : Rp, y = { x0 with prop := x0.view } := ⟨_, rfl⟩
 rw [← h1] at fP r1
 obtain ⟨n, hn⟩ : ∃ n, n = propN x0 firstT [112] := ⟨_, rfl⟩
 rw [← hn] at fP
 have n1 : n.kind = 1 := by rw [hn]; with_unfolding_all rfl
 have n2 : n.fr = (leadT n.view : Int) := by
  have : n.fr = (x0.me : Int) ∧ n.view = x0.view := by rw [hn]; exact ⟨by with_unfolding_all rfl, by with_unfolding_all rfl⟩
  rw [this.1, this.2, hv, hme, lead1]
 have n3 : n.view = 1 := by rw [← hv, hn]; with_unfolding_all rfl
 have n4 : n.pa = firstT := by rw [hn]; with_unfolding_all rfl
 have n5 : n.pl = [112] := by rw [hn]; with_unfolding_all rfl
 have n6 : n.id = idT 1 firstT [112] := by rw [← hv, hn]; with_unfolding_all rfl
 have pn : PN n := ⟨n1, n2, by rw [n5]; decide, n4, by rw [n6, n3, n4, n5], by rw [n3]; decide, by rw [n3]; decide⟩
 have b1 : x1.bs = x0.bs ∧ x1.vo = x0.vo ∧ x1.d = x0.d ∧ x1.n = x0.n ∧ x1.tr = x0.tr ∧ x1.sg = x0.sg ∧ x1.seed = x0.seed := by rw [h1]; exact ⟨rfl, rfl, rfl, rfl, rfl, rfl, rfl⟩
 obtain ⟨c1, c2, c3, c4, c5, c6, c7⟩ := b1
 rcases step_rec hsha r1 pn (by decide) (by omega) (by rw [c5]; omega) (by rw [c6, hsg]; decide) (by rw [c7, hsd]; decide) with ⟨⟨j, hj⟩, -⟩ | ⟨-, hle, -⟩ | ⟨hf, hlt, e, ge, he, fR⟩ | ⟨-, -, hle, -⟩
 ·
  rw [c1, hbs0, n6] at hj
  exact absurd (find_one hj) id_unlike
 ·
  rw [n3, c2, hvo] at hle
  exact absurd hle (by decide)
 ·
  have r2 := r1.vote (by rw [c5]; omega) (by omega) (by rw [n3]; decide) hlt ge
  obtain ⟨x2, h2⟩ : ∃ y, y = voteR x1 n e (0 + 1) := ⟨_, rfl⟩
  rw [← h2] at fR r2
  have d1 : x2.bs = x1.bs ++ [(n.id, n.pl, true)] := by rw [h2]; with_unfolding_all rfl
  have d2 : x2.n = x1.n + 1 := by rw [h2]; with_unfolding_all rfl
  have d3 : x2.tr.length = x1.tr.length + 1 := by
   have h := learn_len x1 n
   rw [h2]
   with_unfolding_all exact h
  have d4 : x2.sg = x1.sg ++ [ballotT n.id] := by rw [h2]; with_unfolding_all rfl
  have d5 : x2.seed = x1.seed := by rw [h2]; with_unfolding_all rfl
  have d6 : x2.view = n.view + 1 := by rw [h2]; with_unfolding_all rfl
  have ls : x2.sg.length = 0 + 1 := by rw [d4, c6, hsg]; rfl
  obtain ⟨v, hvv⟩ : ∃ v, v = voteN (learnR x1 n) n := ⟨_, rfl⟩
  rw [← hvv] at fR
  have v1 : v.kind = 2 := by rw [hvv]; with_unfolding_all rfl
  have v2 : v.rcp = (leadT (n.view + 1) : Int) := by rw [hvv]; with_unfolding_all rfl
  rw [n3, show ((1 : UInt64) + 1) = 2 from rfl, lead2] at v2
  have fT := rTurn_fc (G := G) x2 r2.dead firstT r2.turn.2 r2.turn.1
  obtain ⟨x3, h3⟩ : ∃ y : Rp, y = { x2 with view := x2.view + 1 } := ⟨_, rfl⟩
  rw [← h3] at fT
  have w3 : x3.view = 3 := by rw [h3]; show x2.view + 1 = 3; rw [d6, n3]; rfl
  have s3 : x3.sg = x2.sg := by rw [h3]
  have a3 : x3.dead = false := by rw [h3]; exact r2.dead
  have fV := rView_fc (G := G) x3
  rw [w3] at fV
  have fS := rSigned_fc (G := G) x3 0 (by rw [s3]; exact ls) (by decide)
  have fA := rAlive_fc (G := G) x3
  rw [a3] at fA
  rcases step_rec hsha r2 pn (by decide) (by omega) (by rw [d3, c5]; omega) (by omega) (by rw [d5, c7, hsd]; decide) with ⟨-, fK⟩ | ⟨hf2, -⟩ | ⟨hf2, -⟩ | ⟨hf2, -⟩
  ·
   refine ⟨x1, x2, x3, n, v, turnN x2 firstT, ⟨n3, n4, n6⟩, ⟨v1, v2⟩, ?_, fP, fR, fK, fT, fV, fS, fA⟩
   have : (turnN x2 firstT).view = x2.view + 1 := by with_unfolding_all rfl
   rw [this, d6, n3]
   rfl
  all_goals
   rw [d1] at hf2
   exact absurd hf2 (find_last (p := (n.id, n.pl, true)))
 · exact absurd (by rw [c3]; exact hl) hle
theorem rawake_fc (hm : ShaIn G) (hr : RefIn G) : FP G 10 [] [] (.v (.bool true)) [] := by
 obtain ⟨x1, x2, x3, n, v, t, ⟨n3, n4, n6⟩, ⟨v1, v2⟩, t3, fP, fR, fK, fT, fV, fS, fA⟩ := awake_run hm
 obtain ⟨x0, h0⟩ : ∃ x, x = rp0 (nd 2) [] 0 0 0 (keysP 4) [114, 97] 0 := ⟨_, rfl⟩
 rw [← h0] at fP
 have f0 := new0_fc hm
 rw [← h0] at f0
 have hd : nd 2 = x0.d := by rw [h0]; with_unfolding_all rfl
 have f3 := new3_fc (G := G)
 have f4 := new4_fc (G := G)
 rw [hd] at f3 f4
 have e1 : Value.bool (U64 n.view == 1) = .bool true := by rw [n3]; rfl
 have e2 : Value.bool (v.kind == 2) = .bool true := by rw [v1]; rfl
 have e3 : Value.bool (v.rcp == 0) = .bool true := by rw [v2]; rfl
 have e4 : Value.bool (U64 t.view == 3) = .bool true := by rw [t3]; rfl
 have fI := rID_fc hm 1 firstT [112] (by rw [firstT_32]; decide)
 have fF := rFirst_fc hm
 have fL := rLead_fc (G := G) 4
 rw [lead4] at fL
 refine FC.of_wp [0] Tryz.func10 rfl rfl rfl rfl (by trivial) (by trivial) (Nat.le_of_ble_eq_true rfl) ?_
 intro A hG hnA hAB
 unfold start
 refine WP.rs hG (Ch.asg rfl rfl (Ch.nil (WP.rs hG (Ch.callS (vals_fc hr) gdN .nil .n (by simp) rfl ?_))))
 refine Ch.asg rfl rfl (Ch.nil (WP.rs hG ?_))
 refine Ch.cH (newDisk_fc) [] 0 gdN .nil .n rfl (by refine ⟨?_, ?_, ?_, ?_⟩ <;> first | ((conv => lhs; simp only [nrmA, Nat.reduceAdd, renL_tbs, renL_tb1, renL_bks, renL_b1, renL_vs, renL_v1, ren_vt, pend_ren, ren_ss]); all_goals rfl) | rfl) (by exact trivial) (by exact ⟨rfl, trivial⟩) rfl ?_
 refine Ch.asg rfl rfl (Ch.nil (WP.seq (WP.rs hG (Ch.mv rfl rfl (Ch.p2 rfl rfl (OpS.eqNil (.p _ _) rfl) rfl (Ch.nil (WP.cond_false rfl (WP.skip (WP.rs hG ?_)))))))))
 refine Ch.mv rfl rfl (Ch.mv rfl rfl ?_)
 refine Ch.cH (f0) [0] 1 gdN (.cons rfl (.cons rfl (.cons rfl (.cons rfl .nil)))) (.c (.rfl _) (.c (AV.wk.sh (by simp; first | done | fail)) (.c (.rfl _) (.c (.rfl _) .n)))) rfl (by refine ⟨?_, ?_, ?_, ?_⟩ <;> first | ((conv => lhs; simp only [nrmA, Nat.reduceAdd, renL_tbs, renL_tb1, renL_bks, renL_b1, renL_vs, renL_v1, ren_vt, pend_ren, ren_ss]); all_goals rfl) | rfl) (by exact ⟨rfl, trivial⟩) (by exact ⟨rfl, rfl, rfl, rfl, rfl, rfl, rfl, rfl, rfl, trivial⟩) rfl ?_
 refine Ch.asg rfl rfl (Ch.nil (WP.seq (WP.rs hG (Ch.mv rfl rfl (Ch.p2 rfl rfl (OpS.eqNil (.p _ _) rfl) rfl (Ch.mv rfl rfl (Ch.gm rfl rfl rfl rfl (Ch.gm rfl rfl rfl rfl ?_))))))))
 refine Ch.cH (f4) [0] 10 (gdT rfl rfl) (.cons rfl (.cons rfl (.cons rfl (.cons rfl .nil)))) (.c (.rfl _) (.c (AV.wk.sh (by simp; first | done | fail)) (.c (.rfl _) (.c (.rfl _) .n)))) rfl (by refine ⟨?_, ?_, ?_, ?_⟩ <;> first | ((conv => lhs; simp only [nrmA, Nat.reduceAdd, renL_tbs, renL_tb1, renL_bks, renL_b1, renL_vs, renL_v1, ren_vt, pend_ren, ren_ss]); all_goals rfl) | rfl) (by exact ⟨rfl, trivial⟩) (by exact trivial) rfl ?_
 refine Ch.g2 rfl rfl rfl rfl (OpS.neNilN rfl) rfl (Ch.p2 rfl rfl (OpS.pickF) rfl (Ch.mv rfl rfl (Ch.gm rfl rfl rfl rfl (Ch.g2 rfl rfl rfl rfl (OpS.slH (m := 3) (sz := 2) rfl rfl rfl rfl (by decide) (by decide)) rfl ?_))))
 refine Ch.gm rfl rfl rfl rfl ?_
 refine Ch.cH (f3) [0] 10 (gdT rfl rfl) (.cons rfl (.cons rfl (.cons rfl (.cons rfl .nil)))) (.c (.rfl _) (.c (AV.wk.sh (renL_tk _)) (.c (.rfl _) (.c (.rfl _) .n)))) rfl (by refine ⟨?_, ?_, ?_, ?_⟩ <;> first | ((conv => lhs; simp only [nrmA, Nat.reduceAdd, renL_tbs, renL_tb1, renL_bks, renL_b1, renL_vs, renL_v1, ren_vt, pend_ren, ren_ss]); all_goals rfl) | rfl) (by exact ⟨rfl, trivial⟩) (by exact trivial) rfl ?_
 refine Ch.g2 rfl rfl rfl rfl (OpS.neNilN rfl) rfl (Ch.p2 rfl rfl (OpS.pickF) rfl (Ch.nil (WP.cond_false rfl (WP.skip (WP.rs hG (Ch.mv rfl rfl ?_))))))
 refine Ch.cH (fP) [0,1,2,3,4,5,6,7,8,9] 10 gdN (.cons rfl (.cons rfl .nil)) (.c (.rfl _) (.c (.rfl _) .n)) rfl (by refine ⟨?_, ?_, ?_, ?_⟩ <;> first | ((conv => lhs; simp only [nrmA, Nat.reduceAdd, renL_tbs, renL_tb1, renL_bks, renL_b1, renL_vs, renL_v1, ren_vt, pend_ren, ren_ss]); all_goals rfl) | rfl) (by exact ⟨rfl, rfl, rfl, rfl, rfl, rfl, rfl, rfl, rfl, rfl, trivial⟩) (by exact trivial) rfl ?_
 refine Ch.mv rfl rfl (Ch.p1 rfl (OpS.extract rfl) rfl (Ch.p1 rfl (OpS.extract rfl) rfl (Ch.a0 (OpS.alloc 10 rfl rfl rfl) rfl rfl (Ch.ws rfl rfl (OpS.storePA (cs := ntA nt0) (c := .agg (ntA n)) rfl rfl (nt_one n) (by exact Nat.le_refl 9)) rfl ?_))))
 refine Ch.asg rfl rfl (Ch.nil (WP.rs hG (Ch.mv rfl rfl (Ch.q1 rfl (OpS.loadPA (off := 0) (sz := 9) (cs := ntA n) rfl rfl rfl rfl (by exact Nat.le_refl 9)) rfl rfl ?_))))
 refine Ch.cH (fR) [0,1,2,3,4,5,6,7,8,9] 11 gdN (.cons rfl (.cons rfl .nil)) (.c (.rfl _) (.c (.of_eq (ren_nt _ _).symm) .n)) rfl (by refine ⟨?_, ?_, ?_, ?_⟩ <;> first | ((conv => lhs; simp only [nrmA, Nat.reduceAdd, renL_tbs, renL_tb1, renL_bks, renL_b1, renL_vs, renL_v1, ren_vt, pend_ren, ren_ss]); all_goals rfl) | rfl) (by exact ⟨rfl, rfl, rfl, rfl, rfl, rfl, rfl, rfl, rfl, rfl, trivial⟩) (by exact ⟨rfl, rfl, rfl, trivial⟩) rfl ?_
 refine Ch.mv rfl rfl (Ch.p1 rfl (OpS.extract rfl) rfl (Ch.p1 rfl (OpS.extract rfl) rfl (Ch.a0 (OpS.alloc 14 rfl rfl rfl) rfl rfl (Ch.ws rfl rfl (OpS.storePA (cs := ntA nt0) (c := .agg (ntA v)) rfl rfl (nt_one v) (by exact Nat.le_refl 9)) rfl ?_))))
 refine Ch.asg rfl rfl (Ch.nil (WP.rs hG (Ch.mv rfl rfl (Ch.q1 rfl (OpS.loadPA (off := 0) (sz := 9) (cs := ntA n) rfl rfl rfl rfl (by exact Nat.le_refl 9)) rfl rfl ?_))))
 refine Ch.cH (fK) [0,1,2,3,11,12,6,7,8,13] 15 gdN (.cons rfl (.cons rfl .nil)) (.c (.rfl _) (.c (.of_eq (ren_nt _ _).symm) .n)) rfl (by refine ⟨?_, ?_, ?_, ?_⟩ <;> first | ((conv => lhs; simp only [nrmA, Nat.reduceAdd, renL_tbs, renL_tb1, renL_bks, renL_b1, renL_vs, renL_v1, ren_vt, pend_ren, ren_ss]); all_goals rfl) | rfl) (by exact ⟨rfl, rfl, rfl, rfl, rfl, rfl, rfl, rfl, rfl, rfl, trivial⟩) (by exact trivial) rfl ?_
 refine Ch.mv rfl rfl (Ch.p1 rfl (OpS.extract rfl) rfl (Ch.p1 rfl (OpS.extract rfl) rfl (Ch.a0 (OpS.alloc 15 rfl rfl rfl) rfl rfl (Ch.ws rfl rfl (OpS.storePA (cs := ntA nt0) (c := .agg (ntA nt0)) rfl rfl (nt_one nt0) (by exact Nat.le_refl 9)) rfl ?_))))
 refine Ch.asg rfl rfl (Ch.nil (WP.rs hG (Ch.mv rfl rfl ?_)))
 refine Ch.cH (fT) [0,1,2,3,11,12,6,7,8,13] 16 gdN (.cons rfl .nil) (.c (.rfl _) .n) rfl (by refine ⟨?_, ?_, ?_, ?_⟩ <;> first | ((conv => lhs; simp only [nrmA, Nat.reduceAdd, renL_tbs, renL_tb1, renL_bks, renL_b1, renL_vs, renL_v1, ren_vt, pend_ren, ren_ss]); all_goals rfl) | rfl) (by exact ⟨rfl, rfl, rfl, rfl, rfl, rfl, rfl, rfl, rfl, rfl, trivial⟩) (by exact trivial) rfl ?_
 refine Ch.mv rfl rfl (Ch.p1 rfl (OpS.extract rfl) rfl (Ch.p1 rfl (OpS.extract rfl) rfl (Ch.a0 (OpS.alloc 16 rfl rfl rfl) rfl rfl (Ch.ws rfl rfl (OpS.storePA (cs := ntA nt0) (c := .agg (ntA t)) rfl rfl (nt_one t) (by exact Nat.le_refl 9)) rfl ?_))))
 refine Ch.asg rfl rfl (Ch.nil (WP.rsD (by kernel_rfl) hG (Ch.mv rfl rfl (Ch.mv rfl rfl (Ch.gm rfl rfl rfl rfl (Ch.p2 rfl rfl (OpS.pickT) rfl (Ch.mv rfl rfl (Ch.gm rfl rfl rfl rfl (Ch.g1 rfl rfl rfl (OpS.not) rfl ?_)))))))))
 refine Ch.p2 rfl rfl (OpS.pickT) rfl (Ch.mv rfl rfl (Ch.gm rfl rfl rfl rfl (Ch.p2 rfl rfl (OpS.pickT) rfl (Ch.mv rfl rfl (Ch.g1 rfl rfl rfl (OpS.fieldAddr rfl rfl rfl rfl) rfl (Ch.pu (by exact gdT rfl rfl) (by exact ⟨rfl, trivial⟩) (OpS.loadP rfl rfl rfl) (by exact ⟨rfl, trivial⟩) rfl ?_))))))
 refine Ch.g2 rfl rfl rfl rfl (OpS.int (op := .eql) (v' := .bool true) rfl (by exact e1)) rfl ?_
 refine Ch.p2 rfl rfl (OpS.pickT) rfl (Ch.mv rfl rfl (Ch.g1 rfl rfl rfl (OpS.fieldAddr rfl rfl rfl rfl) rfl (Ch.pu (by exact gdT rfl rfl) (by exact ⟨rfl, trivial⟩) (OpS.loadP rfl rfl rfl) (by exact ⟨rfl, trivial⟩) rfl ?_)))
 refine Ch.callP (fF) (gdT rfl rfl) .nil .n (by rfl) rfl ?_
 refine Ch.g2 rfl rfl rfl rfl (OpS.strEqB (c := true) (by rw [n4]; simp)) rfl ?_
 refine Ch.p2 rfl rfl (OpS.pickT) rfl (Ch.mv rfl rfl (Ch.g1 rfl rfl rfl (OpS.fieldAddr rfl rfl rfl rfl) rfl (Ch.pu (by exact gdT rfl rfl) (by exact ⟨rfl, trivial⟩) (OpS.loadP rfl rfl rfl) (by exact ⟨rfl, trivial⟩) rfl ?_)))
 refine Ch.callP (fF) (gdT rfl rfl) .nil .n (by rfl) rfl ?_
 refine Ch.callP (fI) (gdT rfl rfl) (.cons rfl (.cons rfl (.cons rfl .nil))) (.c (.rfl _) (.c (.rfl _) (.c (.rfl _) .n))) (by rfl) rfl ?_
 refine Ch.g2 rfl rfl rfl rfl (OpS.strEqB (c := true) (by rw [n6]; simp)) rfl ?_
 refine Ch.p2 rfl rfl (OpS.pickT) rfl (Ch.mv rfl rfl (Ch.g1 rfl rfl rfl (OpS.fieldAddr rfl rfl rfl rfl) rfl (Ch.pu (by exact gdT rfl rfl) (by exact ⟨rfl, trivial⟩) (OpS.loadP rfl rfl rfl) (by exact ⟨rfl, trivial⟩) rfl ?_)))
 refine Ch.g2 rfl rfl rfl rfl (OpS.int (op := .eql) (v' := .bool true) rfl (by exact e2)) rfl ?_
 refine Ch.p2 rfl rfl (OpS.pickT) rfl (Ch.mv rfl rfl (Ch.g1 rfl rfl rfl (OpS.fieldAddr rfl rfl rfl rfl) rfl (Ch.pu (by exact gdT rfl rfl) (by exact ⟨rfl, trivial⟩) (OpS.loadP rfl rfl rfl) (by exact ⟨rfl, trivial⟩) rfl ?_)))
 refine Ch.g2 rfl rfl rfl rfl (OpS.int (op := .eql) (v' := .bool true) rfl (by exact e3)) rfl ?_
 refine Ch.p2 rfl rfl (OpS.pickT) rfl (Ch.mv rfl rfl (Ch.gm rfl rfl rfl rfl ?_))
 refine Ch.cH (fV) [0,1,2,3,11,12,6,7,8,13] 17 (gdT rfl rfl) (.cons rfl .nil) (.c (.rfl _) .n) rfl (by refine ⟨?_, ?_, ?_, ?_⟩ <;> first | ((conv => lhs; simp only [nrmA, Nat.reduceAdd, renL_tbs, renL_tb1, renL_bks, renL_b1, renL_vs, renL_v1, ren_vt, pend_ren, ren_ss]); all_goals rfl) | rfl) (by exact ⟨rfl, rfl, rfl, rfl, rfl, rfl, rfl, rfl, rfl, rfl, trivial⟩) (by exact trivial) rfl ?_
 refine Ch.g2 rfl rfl rfl rfl (OpS.int (op := .eql) (v' := .bool true) rfl (by exact rfl)) rfl ?_
 refine Ch.p2 rfl rfl (OpS.pickT) rfl (Ch.mv rfl rfl (Ch.g1 rfl rfl rfl (OpS.fieldAddr rfl rfl rfl rfl) rfl (Ch.pu (by exact gdT rfl rfl) (by exact ⟨rfl, trivial⟩) (OpS.loadP rfl rfl rfl) (by exact ⟨rfl, trivial⟩) rfl ?_)))
 refine Ch.g2 rfl rfl rfl rfl (OpS.int (op := .eql) (v' := .bool true) rfl (by exact e4)) rfl ?_
 refine Ch.p2 rfl rfl (OpS.pickT) rfl (Ch.mv rfl rfl (Ch.gm rfl rfl rfl rfl ?_))
 refine Ch.cH (fS) [0,1,2,3,11,12,6,7,8,13] 17 (gdT rfl rfl) (.cons rfl .nil) (.c (.rfl _) .n) rfl (by refine ⟨?_, ?_, ?_, ?_⟩ <;> first | ((conv => lhs; simp only [nrmA, Nat.reduceAdd, renL_tbs, renL_tb1, renL_bks, renL_b1, renL_vs, renL_v1, ren_vt, pend_ren, ren_ss]); all_goals rfl) | rfl) (by exact ⟨rfl, rfl, rfl, rfl, rfl, rfl, rfl, rfl, rfl, rfl, trivial⟩) (by exact trivial) rfl ?_
 refine Ch.g1 rfl rfl rfl (OpS.len rfl) rfl (Ch.g2 rfl rfl rfl rfl (OpS.int (op := .eql) (v' := .bool true) rfl (by exact rfl)) rfl ?_)
 refine Ch.p2 rfl rfl (OpS.pickT) rfl (Ch.mv rfl rfl (Ch.callP (fL) (gdT rfl rfl) (.cons rfl .nil) (.c (.rfl _) .n) (by rfl) rfl ?_))
 refine Ch.g2 rfl rfl rfl rfl (OpS.int (op := .eql) (v' := .bool true) rfl (by exact rfl)) rfl ?_
 refine Ch.p2 rfl rfl (OpS.pickT) rfl (Ch.mv rfl rfl (Ch.gm rfl rfl rfl rfl ?_))
 refine Ch.cH (fA) [0,1,2,3,11,12,6,7,8,13] 17 (gdT rfl rfl) (.cons rfl .nil) (.c (.rfl _) .n) rfl (by refine ⟨?_, ?_, ?_, ?_⟩ <;> first | ((conv => lhs; simp only [nrmA, Nat.reduceAdd, renL_tbs, renL_tb1, renL_bks, renL_b1, renL_vs, renL_v1, ren_vt, pend_ren, ren_ss]); all_goals rfl) | rfl) (by exact ⟨rfl, rfl, rfl, rfl, rfl, rfl, rfl, rfl, rfl, rfl, trivial⟩) (by exact trivial) rfl ?_
 refine Ch.p2 rfl rfl (OpS.pickT) rfl (Ch.asg rfl rfl (Ch.nilD ?_ (by kernel_rfl)))
 exact WP.ret (Ret.one rfl (.of_eq rfl) trivial hnA)
end
end Go.Proofs.YtpnbpcopdckgpaaGreatDoor.E
end
section
namespace Go.Proofs.YtpnbpcopdckgpaaGreatDoor.E
open Go Go.RowKit Go.Proofs.YtpnbpcopdckgpaaGreatDoor.V
set_option maxRecDepth 4000

attribute [local irreducible] fit
def leavesL (ps : List Txt) (n : Nat) : List Txt := (List.range n).map fun i => fit 32 (tget ps i)
end Go.Proofs.YtpnbpcopdckgpaaGreatDoor.E
end
section
namespace Go.Proofs.YtpnbpcopdckgpaaGreatDoor.E
open Go Go.RowKit Go.Proofs.YtpnbpcopdckgpaaGreatDoor.V
set_option maxRecDepth 4000

def dsum (L : List Txt) (m : Nat) : List Txt := (L.take m).map sum
def Clear (L : List Txt) (m : Nat) : Prop := ∀ i k, i < m → k < i → ¬ (sum (el L i) = sum (el L k) ∧ el L i ≠ el L k)
def Clear2 (L : List Txt) (m j : Nat) : Prop := ∀ k, k < j → ¬ (sum (el L m) = sum (el L k) ∧ el L m ≠ el L k)
theorem Clear2.ne {L : List Txt} {m j : Nat} (h : Clear2 L m j) (he : ¬ sum (el L m) = sum (el L j)) : Clear2 L m (j + 1) := fun k hk => by
 by_cases e : k = j
 · subst e; exact fun h => he h.1
 · exact h k (by omega)
theorem Clear.next {L : List Txt} {m : Nat} (h : Clear L m) (h2 : Clear2 L m m) : Clear L (m + 1) := fun i k hi hk => by
 by_cases e : i = m
 · subst e; exact h2 k hk
 · exact h i k (by omega) hk
attribute [local irreducible] sum tag input node dsum
def L4 : List Txt := [[97], [98], [99], [100]]
end Go.Proofs.YtpnbpcopdckgpaaGreatDoor.E
end
section
namespace Go.Proofs.YtpnbpcopdckgpaaGreatDoor.E
open Go Go.RowKit Go.Proofs.YtpnbpcopdckgpaaGreatDoor.V
set_option maxRecDepth 4000
set_option maxRecDepth 4000
--NRM renL_tbs, renL_tb1, renL_bks, renL_b1, renL_vs, renL_v1, ren_vt, pend_ren, ren_ss
--WKX exact .of_eq (ren_ss _ _).symm | exact .of_eq (ren_nt _ _).symm | exact .of_eq (ren_spt _ _).symm
def Ids32 (x : Rp) : Prop := ∀ id ∈ idsT x.bs, id.length = 32
abbrev rpE (x : Rp) : List (Nat × AO) := [(0, .cells 105 (dkC x.d)), (1, .cells 129 (jC x.s x.c x.lost)), (2, .cells 94 (rpC x 5 9)),
 (3, .cells 140 [.sl (some 4) x.tr.length (x.tr.flatMap tbA)]), (4, .tip 137 2 x.tr.length), (5, .tip 97 3 x.bs.length),
 (6, .cells 142 (kyC x)), (7, .tip 9 1 (leavesT x.seed 5).length), (8, .map x.tm), (9, .tip 9 1 x.sg.length)]
attribute [local irreducible] sum tag input beS rdNum rdText leavesT f64 tb sigT firstT leadT mayT lkT recT idT learnR voteR dieR
section
variable {G : List (Nat × Array Value)}
end
end Go.Proofs.YtpnbpcopdckgpaaGreatDoor.E
end
