/- Other ways to say what a function promises; a call that yields a new entry. -/
import Derived.Test.YtmifllopcbjliaaDoorE13
namespace Go.Proofs.YtmifllopcbjliaaDoor.E
open Go Go.RowKit Go.Proofs.YtmifllopcbjliaaDoor.V

theorem FC.conv {P : Program} {G : List (Nat × Array Value)} {f : FuncId} {args : List AV} {H H' H'' : List (Option AO)} {res res' : AV} (F : FC P G f args H res H') (hlen : H.length ≤ H''.length)
    (h : ∀ A : Amb, A.nA = H.length → A.G = G → (∀ b, A.B b → ∃ i ob, hl H i = some ob ∧ ob.at_ A.ρ i b) → SEnt A ⟨1, ls [(0, res)], hl H', blt H'.length⟩ ⟨1, ls [(0, res')], hl H'', blt H''.length⟩) : FC P G f args H res' H'' := by
  refine ⟨F.enter, F.belA, F.belH, hlen, ?_⟩
  intro A vs hG hnA HS hAB hsz hargs
  refine (F.call A vs hG hnA HS hAB hsz hargs).mono ?_
  rintro e w' ⟨v, ρ', rfl, HS', hv⟩
  have hst : Sat A ρ' ⟨1, ls [(0, res)], hl H', blt H'.length⟩ ⟨#[v], []⟩ w' := by
    refine ⟨HS', ?_, rfl, rfl⟩
    intro t x hx
    have := ls_some hx
    simp at this
    obtain ⟨rfl, rfl⟩ := this
    exact ⟨v, rfl, hv⟩
  obtain ⟨ρ'', hs'⟩ := h A hnA hG hAB _ _ _ hst
  obtain ⟨x, hx, hv'⟩ := hs'.slots 0 res' rfl
  cases hx
  exact ⟨v, ρ'', rfl, hs'.mem, hv'⟩
theorem hl_one (x : AO) : hl [some x] = lh [(0, x)] := by
  funext i
  cases i with
  | zero => rfl
  | succ i => rfl
theorem FC.thaw {P : Program} {G : List (Nat × Array Value)} {f : FuncId} {args : List AV} {n sz : Nat} {E : TypeId} {cs : List AV} (F : FC P G f args [] (.sl (some 0) n cs) [some (.tip E sz n)]) (hc : cs.length = n * sz) (h0 : 0 < n * sz) (hraw : ∀ x ∈ cs, ∃ v, x = .v v) :
    FC P G f args [] (.arr 0 0 n) [some (.cells E cs)] := by
  refine F.conv (Nat.zero_le _) fun A hnA _ hAB => ?_
  rw [hl_one, hl_one]
  exact SEnt.thaw (σ := ⟨1, ls [(0, .sl (some 0) n cs)], lh [(0, .tip E sz n)], _⟩) rfl rfl hc h0 hraw (by rw [hnA]; exact Nat.zero_le _) (Nat.lt_succ_self 0) (fun b hb => by obtain ⟨i, ob, h, -⟩ := hAB b hb; have := (hl_some h).1; simp at this)
theorem FC.shut {P : Program} {G : List (Nat × Array Value)} {f : FuncId} {args : List AV} {n : Nat} {o : Option Nat} {cs : List AV} {H' : List (Option AO)} (F : FC P G f args [] (.sl o n cs) H') (hb : AV.belL (blt 0) cs) (hr : AV.renL (rn []) cs = cs) : FC P G f args [] (.sl none n cs) [] := by
  refine F.conv (Nat.le_refl _) fun A hnA _ hAB => ?_
  refine (Ent.of (l := [(0, .sl none n cs)]) (lo := []) (m := 0) [] (fun i hi => by rw [hnA] at hi; cases hi) ⟨⟨⟨by simp, hb⟩, _, rfl, by
    have : AV.ren (rn []) (.sl none n cs) = .sl none n cs := by simp [AV.ren, hr]
    rw [this]; exact .untip _ _ _⟩, trivial⟩ trivial (by simp)).se

/-- a row that will not be written any more -/
theorem SEnt.freeze {A : Amb} {σ : AS} {t c n m : Nat} {E : TypeId} {cs : List AV} (hs : σ.s t = some (.arr c 0 n)) (hc : σ.h c = some (.cells E cs)) (hl : cs.length = n) (hraw : ∀ x ∈ cs, ∃ v, x = .v v) (hk : A.nA ≤ m) :
    SEnt A σ ⟨σ.n, ls [(t, .sl none n cs)], lh [], blt m⟩ := by
  intro ρ a w hst
  obtain ⟨x, hx, hv⟩ := hst.slots t _ hs
  obtain ⟨b', arr, h1, h2, h3, h4⟩ := hst.mem.heap c _ hc
  cases hv with
  | arr _ _ _ cap b hb hn hmx =>
    obtain rfl : b = b' := by rw [hb] at h1; exact Option.some.inj h1
    let ρ' : Env := ⟨fun i => if i < A.nA then ρ.blk i else none, fun i => if i < A.nA then ρ.tip i else none⟩
    refine ⟨ρ', ⟨⟨hst.mem.os, hst.mem.tape, hst.mem.output, hst.mem.size, hst.mem.block, hst.mem.keep, hst.mem.nlt, hst.mem.nw, hst.mem.wb, hst.mem.tabs, hst.mem.domB, hst.mem.domT, ?_, ?_, ?_, ?_, ?_, ?_, ?_⟩, ?_, hst.nt, hst.defers⟩⟩
    · intro i hi
      refine ⟨blt_iff.2 (by omega), ?_, ?_⟩
      · show (if i < A.nA then ρ.blk i else _) = _; rw [if_pos hi]; exact (hst.mem.fix i hi).2.1
      · show (if i < A.nA then ρ.tip i else _) = _; rw [if_pos hi]; exact (hst.mem.fix i hi).2.2
    · intro i b hb
      have hb' : (if i < A.nA then ρ.blk i else none) = some b := hb
      refine blt_iff.2 ?_
      split at hb'
      · omega
      · cases hb'
    · intro i b hb
      have hb' : (if i < A.nA then ρ.tip i else none) = some b := hb
      refine blt_iff.2 ?_
      split at hb'
      · omega
      · cases hb'
    · intro i ob hi; cases hi
    · intro i ob b o hi; cases hi
    · intro i ob b hi; cases hi
    · intro i j oi oj b hi; cases hi
    · intro t' v' ht'
      have hm' := ls_some ht'
      simp only [List.mem_singleton, Prod.mk.injEq] at hm'
      obtain ⟨rfl, rfl⟩ := hm'
      refine ⟨_, hx, .sl none n cs (some ⟨b, 0, none⟩) cap (fun i => arr.getD i undef) (fun i hi => ?_) (fun i c' hc' => ?_) (fun k hk => by cases hk) hn (fun h => by cases h) hmx⟩
      · have hlt : i < arr.size := by omega
        have hg : arr[i]? = some (arr.getD i undef) := by simp [Array.getD, hlt]
        obtain ⟨c', hc'⟩ : ∃ c', cs[i]? = some c' := ⟨_, List.getElem?_eq_getElem hi⟩
        refine ⟨(h4 i c' _ hc' hg).2, b, 0, rfl, ?_, (Array.getElem?_eq_some_iff.1 h2).1, ?_, fun i ob h => by cases h⟩
        · rw [cell_of_row w b (0 + i) arr E (0, 0) h2, Nat.zero_add]; exact hg
        · exact .inr (hst.mem.own c _ b (0 + i) hc hb)
      · have hi := (List.getElem?_eq_some_iff.1 hc').1
        have hlt : i < arr.size := by omega
        have hg : arr[i]? = some (arr.getD i undef) := by simp [Array.getD, hlt]
        obtain ⟨v, rfl⟩ := hraw c' (List.mem_of_getElem? hc')
        have := (h4 i _ _ hc' hg).1.raw
        show VRel _ _ _ _ (arr.getD i undef)
        rw [this]
        exact .v v
theorem OpS.rem {P : Program} {G : List (Nat × Array Value)} {t t' : TypeId} {x y : Operand} {k : IntKind} {a b : Int} (ha : 0 ≤ a) (hb : 0 < b) {dst : Option Tmp} {ty : TypeId} {pos : String} {aft : Array Edge} {gd : Option (Nat × Bool)} :
    OpS P G ⟨dst, .binOp .rem t x y t', ty, pos, aft, gd⟩ [(x, .v (.int k a)), (y, .v (.int k b))] [] ⟨some (.v (.int k (a % b))), [], []⟩ := by
  refine OpS.binR rfl fun w => ?_
  simp only [binOp, Op.intDiv]
  rw [if_neg (show ¬ b = 0 by omega), Int.tmod_eq_emod_of_nonneg ha, if_neg (show ¬ (k ≠ k) by simp)]
  rfl
theorem OpS.quo {P : Program} {G : List (Nat × Array Value)} {t t' : TypeId} {x y : Operand} {a b : Int} (ha : 0 ≤ a) (ha' : a < 9223372036854775808) (hb : 0 < b) {dst : Option Tmp} {ty : TypeId} {pos : String} {aft : Array Edge} {gd : Option (Nat × Bool)} :
    OpS P G ⟨dst, .binOp .quo t x y t', ty, pos, aft, gd⟩ [(x, .v (.int .i64 a)), (y, .v (.int .i64 b))] [] ⟨some (.v (.int .i64 (a / b))), [], []⟩ := by
  refine OpS.binR rfl fun w => ?_
  simp only [binOp, Op.intDiv]
  rw [if_neg (show ¬ b = 0 by omega), Int.tdiv_eq_ediv_of_nonneg ha, IntKind.wrap_i64]
  have h1 := Int.ediv_nonneg ha (Int.le_of_lt hb)
  have h2 : a / b ≤ a := Int.ediv_le_self b ha
  have : (a / b + 9223372036854775808) % 18446744073709551616 - 9223372036854775808 = a / b := by omega
  first | (rw [this]; rfl) | rfl
/-- one value with one entry goes back -/
theorem Ret.row {A : Amb} {n : Nat} {s : Nat → Option AV} {h : Nat → Option AO} {u : Nat → Bool} {t : Tmp} {v res : AV} {ob : AO} (i : Nat) (hs : s t = some v) (hk : v.wk (res.ren (rn [i]))) (hb : res.bel (blt 1)) (hh : h i = some (ob.ren (rn [i]))) (ho : ob.bel (blt 1)) (hA : A.nA = 0) : Ret A [t] res [some ob] .ret ⟨n, s, h, u⟩ :=
  (Ret.of (rs := [t]) (vs := [res]) (H' := [some ob]) (res := res) [i] (fun j hj => by rw [hA] at hj; cases hj) ⟨⟨hb, v, hs, hk⟩, trivial⟩ rfl ⟨⟨ho, hh⟩, trivial⟩ (by simp) (show ls [(t, res)] t = some res by simp [ls])).1
section
variable {P : Program} {G : List (Nat × Array Value)} {l r : List Oper} {K : AS → Prop} {n : Nat} {s : Nat → Option AV} {h : Nat → Option AO} {u : Nat → Bool} {d : Tmp} {ty : TypeId} {pos : String} {aft : Array Edge} {gd : Option (Nat × Bool)} {D : Bool} {acc : List St}
theorem pi_nil (b j : Nat) : pi [] b j = b + j := rfl
/-- a call that yields one new entry -/
theorem Ch.callN {f : FuncId} {args : List AV} {res : AV} {ob : AO} (b : Nat) (F : FC P G f args [] res [some ob]) {xs : List Operand} {ys : List AV} {ats : Array TypeId}
    (hg : GdOk l.toArray ⟨some d, .call ⟨.value (.func f), xs.toArray, ats⟩, ty, pos, aft, gd⟩ ⟨n, s, h, u⟩ true) (hev : EvL ⟨n, s, h, u⟩ xs ys) (hwk : WkL ys (args.map (AV.ren (pi [] b)))) {res' : AV} {ob' : AO} (hres : res.ren (pi [] b) = res') (hob : ob.ren (pi [] b) = ob') (h3 : NuOk ⟨n, s, h, u⟩ [b]) (hd : Nat.blt d n = true)
    (hr : Ch P G l D K (⟨true, xs.zip ys, [], ⟨some res', [(b, some ob')], [b]⟩⟩ :: acc) r ⟨n, upd s d (some res'), chs h [(b, some ob')], nuU u [b]⟩) :
    Ch P G l D K acc (⟨some d, .call ⟨.value (.func f), xs.toArray, ats⟩, ty, pos, aft, gd⟩ :: r) ⟨n, s, h, u⟩ := by
  subst hres
  subst hob
  exact Ch.call F [] b hg hev hwk rfl (by simp) (by simp) trivial h3 hd hr
theorem Ch.callT {f : FuncId} {args : List AV} {E : TypeId} {sz m k : Nat} {cs : List AV} (b : Nat) (F : FC P G f args [] (.sl (some 0) m cs) [some (.tip E sz k)]) {xs : List Operand} {ys : List AV} {ats : Array TypeId}
    (hg : GdOk l.toArray ⟨some d, .call ⟨.value (.func f), xs.toArray, ats⟩, ty, pos, aft, gd⟩ ⟨n, s, h, u⟩ true) (hev : EvL ⟨n, s, h, u⟩ xs ys) (hwk : WkL ys (args.map (AV.ren (pi [] b)))) (hc : AV.renL (pi [] b) cs = cs) (h3 : NuOk ⟨n, s, h, u⟩ [b]) (hd : Nat.blt d n = true)
    (hr : Ch P G l D K (⟨true, xs.zip ys, [], ⟨some (.sl (some b) m cs), [(b, some (.tip E sz k))], [b]⟩⟩ :: acc) r ⟨n, upd s d (some (.sl (some b) m cs)), chs h [(b, some (.tip E sz k))], nuU u [b]⟩) :
    Ch P G l D K acc (⟨some d, .call ⟨.value (.func f), xs.toArray, ats⟩, ty, pos, aft, gd⟩ :: r) ⟨n, s, h, u⟩ :=
  Ch.callN b F hg hev hwk (by simp [AV.ren, hc, pi_nil]) (by simp [AO.ren]) h3 hd hr
theorem Ch.callA {f : FuncId} {args : List AV} {E : TypeId} {m : Nat} {cs : List AV} (b : Nat) (F : FC P G f args [] (.arr 0 0 m) [some (.cells E cs)]) {xs : List Operand} {ys : List AV} {ats : Array TypeId}
    (hg : GdOk l.toArray ⟨some d, .call ⟨.value (.func f), xs.toArray, ats⟩, ty, pos, aft, gd⟩ ⟨n, s, h, u⟩ true) (hev : EvL ⟨n, s, h, u⟩ xs ys) (hwk : WkL ys (args.map (AV.ren (pi [] b)))) (hc : AV.renL (pi [] b) cs = cs) (h3 : NuOk ⟨n, s, h, u⟩ [b]) (hd : Nat.blt d n = true)
    (hr : Ch P G l D K (⟨true, xs.zip ys, [], ⟨some (.arr b 0 m), [(b, some (.cells E cs))], [b]⟩⟩ :: acc) r ⟨n, upd s d (some (.arr b 0 m)), chs h [(b, some (.cells E cs))], nuU u [b]⟩) :
    Ch P G l D K acc (⟨some d, .call ⟨.value (.func f), xs.toArray, ats⟩, ty, pos, aft, gd⟩ :: r) ⟨n, s, h, u⟩ :=
  Ch.callN b F hg hev hwk (by simp [AV.ren, pi_nil]) (by simp [AO.ren, hc]) h3 hd hr
end
attribute [simp] AV.ren AV.renL renL_append renL_w renL_b renL_s renL_i ren_w ren_b ren_s ren_i rn wA bA sA iA bv AV.bel AV.belL belL_w belL_b belL_s belL_i bel_w bel_b bel_s bel_i AO.bel AO.ren belH blt chs upd lh hl
end Go.Proofs.YtmifllopcbjliaaDoor.E
