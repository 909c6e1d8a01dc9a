import Derived.Test.YtodgdijafcenbaaAE10
namespace Go.AE
section
variable {P : Program} {E : Env} {R : RM} {h : AH} {W : World} {T : PT AV} {a : Act}

theorem ofBytes_rel : ∀ (l : List UInt8), VRs R (ofBytes l) (l.map fun (b : UInt8) => Value.int .u8 b.toNat)
  | [] => .nil
  | b :: l => .cons _ _ _ _ (.int _ _) (ofBytes_rel l)
theorem ofBytes_length (l : List UInt8) : (ofBytes l).length = l.length := by induction l <;> simp_all [ofBytes]

theorem bytesOf_ok : ∀ (l : List AV) (bs : List UInt8) (l' : List Value), bytesOf l = some bs → VRs R l l' → ∃ ns : List Int, l' = ns.map (Value.int .u8) ∧ bs = ns.map fun n => UInt8.ofNat n.toNat
  | [], bs, l', h, hv => by simp [bytesOf] at h; subst h; cases hv; exact ⟨[], rfl, rfl⟩
  | v :: l, bs, l', h, hv => by
    cases v with
    | int k n =>
      cases k <;> simp only [bytesOf, reduceCtorEq] at h
      cases h1 : bytesOf l with
      | none => rw [h1] at h; simp at h
      | some r =>
        rw [h1] at h; simp only [Option.some.injEq] at h; subst h
        cases hv with
        | cons _ v' _ l' hv hl =>
          obtain ⟨ns, e1, e2⟩ := bytesOf_ok l r l' h1 hl
          have := hv.inv_int; subst this
          exact ⟨n :: ns, by simp [e1], by simp [e2]⟩
    | _ => simp [bytesOf] at h

/-- a new row, some of whose place behind its end may be frozen -/
theorem BR_newF {E : Env} {R : RM} (W : World) {l : List AV} {l' ex : List Value} {t : TypeId} {i : TI} (hx : VRs R l l') (hi : E.ti t = some i) (e : TypeId) :
    BR E R (W.alloc (.cells ⟨l' ++ ex⟩ e ((l' ++ ex).length, (l' ++ ex).length + 1))) ⟨W.heap.size, 0, l.length, (l' ++ ex).length, i.size⟩ (ownL l t) := by
  have hlen := hx.length
  refine ⟨rfl, by simp; omega, ⟨i, hi, rfl⟩, ⟨l' ++ ex⟩, e, _, heap_push_new _ _, by simp, fun j _ h2 h => by simp at h2 h; omega, fun j v hj => ?_⟩
  rw [get_setN] at hj
  split at hj
  · rename_i hjl
    obtain ⟨v', hv', hv⟩ := hx.get hj
    have : j - 0 < l'.length := (List.getElem?_eq_some_iff.1 hv').1
    refine ⟨by omega, v', ?_, hv⟩
    simp only [Nat.sub_zero] at hv' this
    simp [hv', List.getElem?_append_left this]
  · simp [PT.get] at hj

theorem freeze_alloc (W : World) (c : Array Value) (e : TypeId) (n : Nat) : (W.alloc (.cells c e)).freeze ⟨W.heap.size, n, none⟩ 1 = W.alloc (.cells c e (n, n + 1)) := by
  show World.freeze { W with heap := W.heap.push (.cells c e) } _ 1 = { W with heap := W.heap.push (.cells c e (n, n + 1)) }
  unfold World.freeze
  rw [if_neg (by omega)]
  congr 1
  apply Array.ext_getElem?
  intro i
  simp only [Array.getElem?_modify, Array.getElem?_push]
  by_cases hi : W.heap.size = i
  · subst hi; simp
  · have hi' : ¬ i = W.heap.size := fun e => hi e.symm
    simp [hi, hi']

theorem strToBytes_ok (hE : EnvOk P E) (hw : WRel E R h W) {e : TypeId} {ei : TI} (hei : E.ti e = some ei) (h1 : ei.size = 1) {s : ByteArray} {l : List UInt8} (hs : s.data.toList = l) :
    ∃ v' W' R', (Conv.stringToBytes e s).run P W = .ok v' W' ∧ VR R' (.slc h.n 0 l.length l.length) v' ∧ WRel E R' (h.new (ownL (ofBytes l) e)) W' ∧ ∀ n0, n0 ≤ h.n → Ext n0 R h W R' (h.new (ownL (ofBytes l) e)) W' := by
  have hsz : s.size = l.length := by rw [← hs]; simp
  have key : ∀ (cap : Nat) (W1 : World), s.size ≤ cap → WRel E R h W1 → (∀ n0, Ext n0 R h W R h W1) → W1.heap.size = W.heap.size →
      ∃ v' W' R', ((do let a ← newRow e ((s.data.map fun (b : UInt8) => Value.int .u8 b.toNat) ++ Array.replicate (cap - s.size) (Value.int .u8 0)); markStringish a; pure (.slice (some a) s.size cap)) : Sem Value).run P W1 = .ok v' W' ∧ VR R' (.slc h.n 0 l.length l.length) v' ∧ WRel E R' (h.new (ownL (ofBytes l) e)) W' ∧ ∀ n0, n0 ≤ h.n → Ext n0 R h W R' (h.new (ownL (ofBytes l) e)) W' := by
    intro cap W1 hcap hw1 hext hws
    have hc : (s.data.map fun (b : UInt8) => Value.int .u8 b.toNat) ++ Array.replicate (cap - s.size) (Value.int .u8 0) = ⟨(l.map fun (b : UInt8) => Value.int .u8 b.toNat) ++ List.replicate (cap - s.size) (Value.int .u8 0)⟩ := by
      apply Array.toList_inj.1
      simp [hs]
    rw [hc]
    have hlen : ((l.map fun (b : UInt8) => Value.int .u8 b.toNat) ++ List.replicate (cap - s.size) (Value.int .u8 0)).length = cap := by simp; omega
    have hfresh := hw1.fresh h.n (Nat.le_refl _)
    obtain ⟨g1, g2⟩ := new_rel (h := h.new (ownL (ofBytes l) e)) hw1 hfresh (Nat.lt_succ_self _) (Nat.le_succ _) (fun k hk => get_new_other h _ k hk) (get_new_same h _)
      (.cells ⟨(l.map fun (b : UInt8) => Value.int .u8 b.toNat) ++ List.replicate (cap - s.size) (Value.int .u8 0)⟩ e (cap, cap + 1))
      ⟨W1.heap.size, 0, (ofBytes l).length, cap, ei.size⟩ rfl (fun R' _ => by
        have := BR_newF (E := E) (R := R') W1 (ex := List.replicate (cap - s.size) (Value.int .u8 0)) (ofBytes_rel l) hei e
        rw [hlen] at this
        exact this)
    refine ⟨.slice (some ⟨W1.heap.size, 0, none⟩) s.size cap, _, _, ?_, ?_, g1, fun n0 hn => (hext n0).trans (g2 n0 hn) (Nat.le_refl _)⟩
    · simp only [Sem.run_bind, run_newRow, Result.andThen_ok, markStringish, run_shape]
      have hsh : World.shape? (W1.alloc (.cells ⟨(l.map fun (b : UInt8) => Value.int .u8 b.toNat) ++ List.replicate (cap - s.size) (Value.int .u8 0)⟩ e)) W1.heap.size = some (e, cap) := by
        unfold World.shape?
        rw [heap_push_new]
        simp; omega
      rw [hsh]
      simp only [run_freeze, Result.andThen_ok, Sem.run_pure]
      rw [freeze_alloc]
    · rw [hsz]
      refine VR.slc (R := R.upd h.n _) h.n 0 l.length l.length cap _ (RM.upd_same _ _ _) (Nat.le_refl _) (by omega) (.inr ⟨?_, ?_⟩)
      · simp [h1, ofBytes_length]
      · simp [h1]
  unfold Conv.stringToBytes
  simp only [Sem.run_bind, run_choose, Question.forced, Bool.false_eq_true, if_false, Result.andThen_ok]
  have := key (Question.cut (.appendCap s.size 0 e) (W.tape W.drawn (.appendCap s.size 0 e))) { W with drawn := W.drawn + 1 } (by simp [Question.cut]) (hw.drew _) (fun n0 => .drew n0 _ _ _ _) rfl
  simp only [Sem.run_bind] at this
  exact this

theorem oConv_ok (hE : EnvOk P E) (hw : WRel E R h W) (hT : TR R T a.tmps) {s d : TypeId} {x : Operand} {r : OR} (hr : oConv E T s d x h = some r) :
    OpSat P E R h W (do pure (.value (← convert s d (a.eval x)))) r := by
  unfold oConv at hr
  split at hr
  · rename_i v hv
    have hv' := eval_rel hT hv
    unfold aConv at hr
    split at hr
    · rename_i si di hs hd
      have hts := hE.ti s si hs
      have htd := hE.ti d di hd
      split at hr
      · rename_i k k' n hdd
        simp only [Option.some.injEq] at hr; subst hr
        rw [hv'.inv_int]
        refine .same hw (run_v (v := .int k (k.wrap n)) ?_) (by rw [mkInt_eq]; exact .int _ _)
        simp only [convert, Sem.run_bind, hts.runU, htd.runU, Result.andThen_ok, hdd]
        rfl
      · rename_i l hdd
        simp only [Option.some.injEq] at hr; subst hr
        obtain ⟨u, hu, he⟩ := hv'.inv_str
        rw [he]
        refine .same hw (run_v (v := .string u) ?_) (.str _ _ hu)
        simp only [convert, Sem.run_bind, hts.runU, htd.runU, Result.andThen_ok, hdd]
        cases si.d <;> rfl
      · rename_i e l hdd
        split at hr
        · rename_i ei hei
          split at hr
          · rename_i hed
            split at hr
            · rename_i h1
              simp only [Option.some.injEq] at hr; subst hr
              obtain ⟨u, hu, he⟩ := hv'.inv_str
              obtain ⟨v', W', R', hrun, hvr, hw', hext⟩ := strToBytes_ok (P := P) hE hw hei h1 hu
              refine ⟨v', W', R', .inl (run_v ?_), hvr, hw', hext⟩
              rw [he]
              simp only [convert, Sem.run_bind, hts.runU, htd.runU, Result.andThen_ok, hdd]
              cases si.d <;> simp only [Sem.run_bind, (hE.ti _ _ hei).runU, Result.andThen_ok, hed, hrun]
            · cases hr
          · cases hr
        · cases hr
      · rename_i e hsd hdd hne
        split at hr
        · rename_i ei hei
          split at hr
          · rename_i hed
            split at hr
            · simp only [Option.some.injEq] at hr; subst hr
              rw [hv'.inv_nils]
              refine .same hw (run_v (v := .string .empty) ?_) (.str _ _ rfl)
              simp only [convert, Sem.run_bind, hts.runU, htd.runU, Result.andThen_ok, hsd, hdd, (hE.ti _ _ hei).runU, hed]
              rfl
            · rename_i b o n c
              split at hr
              · rename_i cs hcs
                split at hr
                · rename_i l hl
                  simp only [Option.some.injEq] at hr; subst hr
                  obtain ⟨r, ad, c', hrb, he, _, hor⟩ := hv'.inv_slc
                  obtain ⟨l', hlr, hlen, hcell⟩ := loadN_rel hw hrb hcs
                  obtain ⟨ns, e1, e2⟩ := bytesOf_ok _ _ _ hl hlr
                  have hload : (loadCells ad n).run P W = .ok (ns.map (Value.int .u8)).toArray W := by
                    rcases hor with ⟨h0, _, _⟩ | ⟨ha, _⟩
                    · subst h0
                      have : ns = [] := by
                        have : ns.length = 0 := by rw [e1] at hlen; simpa using hlen
                        exact List.eq_nil_of_length_eq_zero this
                      subst this
                      rfl
                    · subst ha
                      have := run_loadCells_list (P := P) W ⟨r.blk, r.off + o, none⟩ l' (fun j v hj => by rw [add_mk]; exact hcell j v hj)
                      rw [hlen] at this
                      rw [this, e1]
                  have hrun := run_bytesToString (P := P) W ad n c' ns hload
                  refine .same hw (run_v (v := .string (ns.foldl (fun r n => r.push (UInt8.ofNat n.toNat)) ByteArray.empty)) ?_) (.str _ _ ?_)
                  · rw [he]
                    simp only [convert, Sem.run_bind, hts.runU, htd.runU, Result.andThen_ok, hsd, hdd, (hE.ti _ _ hei).runU, hed, hrun]
                  · rw [foldl_push_bytes, e2]
                    simp
                · cases hr
              · cases hr
            · cases hr
          · cases hr
        · cases hr
      · cases hr
    · cases hr
  · cases hr

end
end Go.AE
