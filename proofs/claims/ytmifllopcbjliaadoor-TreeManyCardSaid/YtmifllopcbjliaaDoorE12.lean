/- Made slices, copy, a row that may be written from now on; from abstract promises to concrete ones and back. -/
import Derived.Test.YtmifllopcbjliaaDoorE11
import Derived.Laws.OwnMore
namespace Go.Proofs.YtmifllopcbjliaaDoor.E
open Go Go.RowKit Go.Proofs.YtmifllopcbjliaaDoor.V

theorem madeCells_one (z : Value) (m : Nat) : (madeCells #[z] m).toList = List.replicate m z := by
  apply List.ext_getElem?
  intro j
  by_cases hj : j < m
  · simp [madeCells, hj, Nat.mod_one]
  · simp [madeCells, hj]

section
variable {P : Program} {G : List (Nat × Array Value)} {dst : Option Tmp} {ty : TypeId} {pos : String} {aft : Array Edge} {gd : Option (Nat × Bool)}

/-- make: a row of noughts that may be written -/
theorem OpS.make {t E : TypeId} {inf : TypeInfo} {z : Value} {x y : Operand} {k k' : IntKind} {m : Int} {n : Nat} (id : Nat) (hu : P.underlying t = some (.slice E)) (hi : P.info? E = some inf) (hz : inf.zero = some z) (hsz : inf.size = 1) (hzc : z.cells = #[z]) (h1 : z.oneCell' = true) (hm : m = (n : Int))
    (hb : n * inf.bytes ≤ 281474976710656) (hn : n ≤ maxLen) :
    OpS P G ⟨dst, .makeSlice t x y, ty, pos, aft, gd⟩ [(x, .v (.int k m)), (y, .v (.int k' m))] [] ⟨some (.arr id 0 n), [(id, some (.cells E (List.replicate n (.v z))))], [id]⟩ := by
  subst hm
  refine OpS.act fun A ρ σ a w _ h hp hu' hs => ?_
  have hl : (madeCells z.cells (n * inf.size)).toList = List.replicate n z := by rw [hzc, hsz, Nat.mul_one, madeCells_one]
  obtain ⟨ρ', k1, k2, k3⟩ := new_cells (w' := w.alloc (.cells (madeCells z.cells (n * inf.size)) E)) (T := E) (cs := List.replicate n (.v z)) hs.mem hu'.1 rfl rfl rfl (by simp) (fun k hk => Below.heap_alloc w _ k hk) (heap_alloc_new w _)
    (by rw [List.length_replicate, ← Array.length_toList, hl, List.length_replicate]; exact Nat.le_refl _) (fun j c v hc hv => by
    rw [← Array.getElem?_toList, hl] at hv
    rw [List.getElem?_replicate] at hc hv
    split at hc
    · rw [if_pos ‹_›] at hv
      cases hc; cases hv
      exact ⟨.v _, h1⟩
    · cases hc)
  have hn' : ((n : Int)) ≤ 9223372036854775807 := by unfold maxLen at hn; omega
  have hb' : (inf.bytes : Int) * (n : Int) ≤ 281474976710656 := by
    have h : ((n * inf.bytes : Nat) : Int) ≤ 281474976710656 := by omega
    rw [Int.mul_comm]
    rwa [Int.natCast_mul] at h
  have hr := run_make (P := P) w t E inf z hu hi hz k k' (n : Int) (n : Int) (by omega) (Int.le_refl _) hb' hn'
  simp only [Int.toNat_natCast] at hr
  refine ⟨_, _, ρ', .inl ?_, k1, k2, fun v hv => by cases hv; exact .arr id 0 n n _ k3 (Nat.le_refl _) hn⟩
  refine runv (s := Instr.makeSlice t (a.eval x) (a.eval y)) ?_
  rw [(hs.ev h.1).raw, (hs.ev h.2.1).raw]
  exact hr

/-- copy, of a text -/
theorem OpS.copyS {dT sT E : TypeId} {inf : TypeInfo} {x y : Operand} {id off n : Nat} {T : TypeId} {cs : List AV} {l : List UInt8} (hu : P.underlying dT = some (.slice E)) (hi : P.info? E = some inf) (hsz : inf.size = 1) (hl : off + n ≤ cs.length) :
    OpS P G ⟨dst, .call ⟨.builtin .copy, #[x, y], #[dT, sT]⟩, ty, pos, aft, gd⟩ [(x, .arr id off n), (y, .v (.string (B l)))] [(id, .cells T cs)]
      ⟨some (.v (.int .i64 ((l.take n).length : Int))), [(id, some (.cells T (splice cs off ((l.take n).map bA))))], []⟩ := by
  refine OpS.act fun A ρ σ a w _ h hp _ hs => ?_
  have hx := hs.ev h.1
  have hy := (hs.ev h.2.1).raw
  obtain ⟨b, arr, k1, k2, k3, k4⟩ := hs.mem.heap id _ hp.1
  have hlen : (bvs (l.take n)).length = (l.take n).length := bvs_length _
  have hln : (l.take n).length ≤ n := List.length_take_le _ _
  have hst := run_storeCells_at P b off T (bvs (l.take n)) 0 arr w k2 (by rw [hlen]; simp at hln ⊢; omega) (bvs_one _)
  obtain ⟨m1, m2⟩ := hs.mem.write (cs' := splice cs off ((l.take n).map bA)) (w' := w.setRow b (arr.toList.take off ++ bvs (l.take n) ++ arr.toList.drop (off + (bvs (l.take n)).length)).toArray) hp.1 k1 rfl rfl rfl (by simp) (fun k _ hk => setRow_other w b k _ hk)
    (setRow_heap w b arr _ T (0, 0) k2) (by
      rw [splice_len _ _ _ (by simp; omega)]
      simp [hlen]; omega) (fun j c v hc hv => by
    have hv' : (splice arr.toList off (bvs (l.take n)))[j]? = some v := by simpa [splice] using hv
    rw [splice_get _ _ _ _ (by simp; omega)] at hc
    rw [splice_get _ _ _ _ (by rw [hlen]; simp at hln ⊢; omega)] at hv'
    simp only [List.length_map, hlen] at hc hv'
    split at hc
    · rename_i hin
      rw [if_pos hin] at hv'
      simp only [bvs, List.getElem?_map] at hc hv'
      cases hq : (l.take n)[j - off]? with
      | none => rw [hq] at hc; cases hc
      | some q =>
        rw [hq] at hc hv'
        cases hc; cases hv'
        exact ⟨.v _, rfl⟩
    · rename_i hin
      rw [if_neg hin] at hv'
      exact k4 j c v hc (by simpa using hv'))
  obtain ⟨css, he⟩ := exec_b2 a.eval .copy x y #[dT, sT] (dst := dst) (ty := ty) (pos := pos) (aft := aft) (gd := gd)
  refine ⟨goInt ((l.take n).length : Int), _, ρ, .inl ?_, m1, m2, fun v hv => by cases hv; exact .v _⟩
  rw [he]
  refine runv (s := Builtin.copy_ #[dT, sT] ty #[a.eval x, a.eval y]) ?_
  rw [hy]
  generalize a.eval x = v at hx
  cases hx with
  | arr id off n cap b' hb hn hm =>
    rw [k1] at hb
    cases hb
    have e1 : Nat.min (B l).size n = (l.take n).length := by rw [B_size, List.length_take]; exact Nat.min_comm _ _
    have e3 : l.take (l.take n).length = l.take n := by rw [List.length_take, ← List.take_take, List.take_length]
    have e2 : ((B l).extract 0 (l.take n).length).data.map (fun b => Value.int .u8 b.toNat) = (bvs (l.take n)).toArray := by
      rw [B_extract, List.drop_zero, Nat.sub_zero, e3]
      simp [bvs, B]
      rfl
    have hst' : (storeCells ⟨b, off, none⟩ (bvs (l.take n))).run P w = .ok () (w.setRow b (arr.toList.take off ++ bvs (l.take n) ++ arr.toList.drop (off + (bvs (l.take n)).length)).toArray) := by simpa using hst
    simp only [Builtin.copy_]
    simp [Sem.run_bind, run_underlying hu, Builtin.lenOf, Builtin.firstCells, sizeOf, typeInfo, hi, hsz, Sem.run_pure, Result.andThen_ok, -ByteArray.data_extract]
    have e2' : List.map (fun b : UInt8 => Value.int .u8 b.toNat) ((B l).extract 0 (l.take n).length).data.toList = bvs (l.take n) := by
      have := congrArg Array.toList e2
      simpa using this
    rw [e1, e2', hst']
    simp [Result.andThen_ok]
/-- bytes of a row that may be written, as a text -/
theorem OpS.b2sA {src d e : TypeId} {x : Operand} {id off n : Nat} {T : TypeId} {cs : List AV} {l : List UInt8} (hs : P.underlying src = some (.slice e)) (he : P.underlying e = some (.int .u8)) (hd : P.underlying d = some .string) (hn : n = l.length) (hl : (cs.drop off).take n = l.map bA) :
    OpS P G ⟨dst, .convert src d x, ty, pos, aft, gd⟩ [(x, .arr id off n)] [(id, .cells T cs)] ⟨some (.v (.string (B l))), [], []⟩ := by
  subst hn
  refine OpS.still fun A ρ σ a w _ h hp hst => ⟨_, ?_, .v _⟩
  refine runv (s := convert src d (a.eval x)) ?_
  have hx := hst.ev h.1
  obtain ⟨b, arr, k1, k2, k3, k4⟩ := hst.mem.heap id _ hp.1
  generalize a.eval x = y at hx ⊢
  cases hx with
  | arr id off n cap b' hb hn hm =>
    rw [k1] at hb
    cases hb
    refine run_b2s w src d e hs he hd _ cap l (fun j v hj => ?_)
    have hjl : j < l.length := by have := (List.getElem?_eq_some_iff.1 hj).1; simpa [bvs] using this
    have hc : cs[off + j]? = some (bA l[j]) := by
      have := congrArg (fun x => x[j]?) hl
      simp only [List.getElem?_take_of_lt hjl, List.getElem?_drop, List.getElem?_map, List.getElem?_eq_getElem hjl] at this
      exact this
    have hlt : off + j < arr.size := by have := (List.getElem?_eq_some_iff.1 hc).1; omega
    have := (k4 (off + j) _ arr[off + j] hc (Array.getElem?_eq_getElem hlt)).1.raw
    rw [Addr.add_mid, cell_of_row w b (off + j) arr T (0, 0) k2, Array.getElem?_eq_getElem hlt, this]
    simpa [bvs, hjl] using hj
end

/-- a row that was appended to may be written from now on; nothing else is told -/
theorem SEnt.thaw {A : Amb} {σ : AS} {t c n sz k m : Nat} {E : TypeId} {cs : List AV} (hs : σ.s t = some (.sl (some c) n cs)) (hc : σ.h c = some (.tip E sz n)) (hl : cs.length = n * sz) (h0 : 0 < n * sz) (hraw : ∀ x ∈ cs, ∃ v, x = .v v) (hk : A.nA ≤ k) (hm : k < m) (hAB : ∀ b, ¬ A.B b) :
    SEnt A σ ⟨σ.n, ls [(t, .arr k 0 n)], lh [(k, .cells E cs)], blt m⟩ := by
  intro ρ a w hst
  obtain ⟨x, hx, hv⟩ := hst.slots t _ hs
  have ho := hst.mem.heap c _ hc
  cases hv with
  | sl o n cs ad cap vals hcv hcs htip hn hz hmx =>
    have ht := htip c rfl
    rcases ho with ⟨h1, h2⟩ | ⟨g, cap', cur, h1, h2, h3, h4, h5⟩
    · subst h2; simp at h0
    · rw [ht] at h1
      cases h1
      let ρ' : Env := ⟨fun i => if i < A.nA then ρ.blk i else if i = k then some g else none, fun i => if i < A.nA then ρ.tip i else none⟩
      have hkb : ρ'.blk k = some g := by show (if k < A.nA then _ else if k = k then some g else none) = _; rw [if_neg (by omega), if_pos rfl]
      have hown := hst.mem.ownB c _ g hc ⟨cap, ht⟩
      have hcell : ∀ i, i < cs.length → cur[i]? = some (vals i) := fun i hi => by
        obtain ⟨_, b, off, he, hx', _⟩ := hcv i hi
        cases he
        rw [cell_of_row w g (0 + i) cur E (0, 0) h2, Nat.zero_add] at hx'
        exact hx'
      refine ⟨ρ', ⟨⟨hst.mem.os, hst.mem.tape, hst.mem.output, hst.mem.size, hst.mem.block, hst.mem.keep, hst.mem.nlt, hst.mem.nw, hst.mem.wb, hst.mem.tabs, hst.mem.domB, hst.mem.domT, ?_, ?_, ?_, ?_, ?_, ?_, ?_⟩, ?_, hst.nt, hst.defers⟩⟩
      · intro i hi
        refine ⟨blt_iff.2 (by omega), ?_, ?_⟩
        · show (if i < A.nA then ρ.blk i else _) = _; rw [if_pos hi]; exact (hst.mem.fix i hi).2.1
        · show (if i < A.nA then ρ.tip i else _) = _; rw [if_pos hi]; exact (hst.mem.fix i hi).2.2
      · intro i b hb
        have hb' : (if i < A.nA then ρ.blk i else if i = k then some g else none) = some b := hb
        refine blt_iff.2 ?_
        split at hb'
        · omega
        · split at hb'
          · omega
          · cases hb'
      · intro i b hb
        have hb' : (if i < A.nA then ρ.tip i else none) = some b := hb
        refine blt_iff.2 ?_
        split at hb'
        · omega
        · cases hb'
      · intro i ob hi
        have hm' := lh_some hi
        simp only [List.mem_singleton, Prod.mk.injEq] at hm'
        obtain ⟨rfl, rfl⟩ := hm'
        refine ⟨g, cur, hkb, h2, ?_, fun j c' y hc' hy => ?_⟩
        · rw [hl, h5]; exact Nat.mul_le_mul_right _ h3
        · have hj := (List.getElem?_eq_some_iff.1 hc').1
          have hy' : y = vals j := by rw [hcell j hj] at hy; injection hy with hy; exact hy.symm
          subst hy'
          obtain ⟨v, rfl⟩ := hraw c' (List.mem_of_getElem? hc')
          have := (hcs j _ hc').raw
          rw [this]
          have h1' := (hcv j hj).1
          rw [this] at h1'
          exact ⟨.v v, h1'⟩
      · intro i ob b o hi hw
        have hm' := lh_some hi
        simp only [List.mem_singleton, Prod.mk.injEq] at hm'
        obtain ⟨rfl, rfl⟩ := hm'
        have hw' : ρ'.blk i = some b := hw
        rw [hkb] at hw'
        cases hw'
        exact .inr (hown.resolve_left (hAB _))
      · intro i ob b hi hw
        have hm' := lh_some hi
        simp only [List.mem_singleton, Prod.mk.injEq] at hm'
        obtain ⟨rfl, rfl⟩ := hm'
        have hw' : ρ'.blk i = some b := hw
        rw [hkb] at hw'
        cases hw'
        exact hown
      · intro i j oi oj b hi hj _ _
        have h1' := lh_some hi
        have h2' := lh_some hj
        simp only [List.mem_singleton, Prod.mk.injEq] at h1' h2'
        rw [h1'.1, h2'.1]
      · intro t' v' ht'
        have hm' := ls_some ht'
        simp only [List.mem_singleton, Prod.mk.injEq] at hm'
        obtain ⟨rfl, rfl⟩ := hm'
        exact ⟨_, hx, .arr k 0 n cap g hkb hn hmx⟩
end Go.Proofs.YtmifllopcbjliaaDoor.E
