/- Operations: conversions, literals. -/
import Derived.Test.YtmookoajpcnigaaGreatMxO6
set_option linter.unusedSimpArgs false
namespace Go.Mx
open Go

section
variable {P : Program} {E : Env} {φ : Phi} {s s' : St} {w : World} {tm : Tm} {a : Act} {v : AV} {cf : CF} {o : Oper}

theorem bytesOf_some : ∀ (l : List Sc) (b : List Nat) (xs : List Value), bytesOf l = some b → concL φ l = some xs → ∃ ns : List Int, xs = ns.map (Value.int .u8) ∧ b = ns.map Int.toNat := by
  intro l
  induction l with
  | nil => intro b xs h hc; simp [bytesOf] at h; simp [concL] at hc; exact ⟨[], hc.symm ▸ rfl, h.symm ▸ rfl⟩
  | cons c r ih =>
    intro b xs h hc
    obtain ⟨y, z, h1, h2, rfl⟩ := concL_cons.1 hc
    unfold bytesOf at h
    split at h
    · rename_i e; cases e
    · rename_i n q e
      injection e with e1 e2; subst e1; subst e2
      split at h
      · rename_i b' hb
        injection h with h; subst h
        obtain ⟨ns, rfl, rfl⟩ := ih _ _ hb h2
        simp [concS] at h1; subst h1
        exact ⟨n :: ns, rfl, rfl⟩
      · simp at h
    · simp at h

theorem foldl_push_str : ∀ (ns : List Int) (r : ByteArray), ns.foldl (fun r n => r.push (UInt8.ofNat n.toNat)) r = ⟨r.data ++ ((ns.map Int.toNat).map UInt8.ofNat).toArray⟩
  | [], r => by simp
  | n :: ns, r => by
    simp only [List.foldl_cons, List.map_cons]
    rw [foldl_push_str ns]
    simp [ByteArray.push]

theorem freeze_at {b n : Nat} {cs : Array Value} {e : TypeId} {fr : Nat × Nat} (hh : w.heap[b]? = some (.cells cs e fr)) :
    (w.freeze ⟨b, n, none⟩ 1).heap[b]? = some (.cells cs e (if fr.1 == fr.2 then (n, n + 1) else (min fr.1 n, max fr.2 (n + 1)))) ∧
    (∀ c, c ≠ b → (w.freeze ⟨b, n, none⟩ 1).heap[c]? = w.heap[c]?) ∧ (w.freeze ⟨b, n, none⟩ 1).heap.size = w.heap.size := by
  have hb : b < w.heap.size := by
    rcases Nat.lt_or_ge b w.heap.size with h | h
    · exact h
    · simp [Array.getElem?_eq_none h] at hh
  refine ⟨?_, ?_, ?_⟩
  · simp only [World.freeze]
    rw [if_neg (by omega)]
    simp only [Array.getElem?_modify, if_true, hh, Option.map_some]
  · intro c hc
    simp only [World.freeze]
    rw [if_neg (by omega)]
    simp only [Array.getElem?_modify]
    rw [if_neg (fun e => hc e.symm)]
  · simp only [World.freeze]
    rw [if_neg (by omega)]
    simp

theorem op_convert (hE : TyOk P E) (hs : Sat P φ s w) {src dst : Nat} {x : Operand} (ho : o.op = .convert src dst x) (hev : OpsOk P φ tm a o)
    (h : doOp E cf tm s o = some (v, s')) : Done P φ s w s' v ((execOp a.eval o).run P w) := by
  have hx := hev x (by simp [ho, Op.operands])
  simp only [doOp, ho] at h
  have hrun : (execOp a.eval o).run P w = (do pure (Next.value (← convert src dst (a.eval x))) : Sem Next).run P w := by simp only [execOp, ho]
  split at h
  · rename_i ts sz ag k zr pl kk n hts htd hxe
    simp at h; obtain ⟨rfl, rfl⟩ := h
    obtain ⟨d1, hd1, _⟩ := (hE _ _ hts).und
    obtain ⟨d2, hd2, rfl, _⟩ := (hE _ _ htd).und
    have hc := hx _ hxe
    simp [conc, concS] at hc
    refine done_same hs (x := .int k (k.wrap n)) ?_ rfl
    rw [hrun]
    refine run_v _ ?_
    rw [← hc]
    simp [convert, run_und hd1, run_und hd2, Conv.intToInt]
  · rename_i sz ag e zr pl sz' ag' zr' pl' q n c op hts htd hxe
    split at h
    · rename_i sz2 ag2 zr2 pl2 hte
      obtain ⟨d1, hd1, rfl, _⟩ := (hE _ _ hts).und
      obtain ⟨d2, hd2, rfl, _⟩ := (hE _ _ htd).und
      obtain ⟨d3, hd3, rfl, _⟩ := (hE _ _ hte).und
      have hc := hx _ hxe
      cases q with
      | none =>
        simp at h; obtain ⟨rfl, rfl⟩ := h
        simp [conc, concS] at hc
        refine done_same hs (x := .string (str [])) ?_ rfl
        rw [hrun]
        refine run_v _ ?_
        rw [← hc]
        simp [convert, run_und hd1, run_und hd2, run_und hd3, Conv.bytesToString]
        rfl
      | some p =>
        simp only at h
        split at h
        · rename_i l hl
          split at h
          · rename_i b hb
            simp at h; obtain ⟨rfl, rfl⟩ := h
            simp only [conc, concS] at hc
            split at hc
            · rename_i L hL
              injection hc with hc
              obtain ⟨vs, hv1, hv2, hv3⟩ := ld_cells hs hl (A := ⟨L.blk, L.base + p.2, none⟩) (by simp [concA, hL])
              obtain ⟨ns, rfl, rfl⟩ := bytesOf_some _ _ _ hb hv1
              refine done_same hs (x := .string (str (ns.map Int.toNat))) ?_ rfl
              rw [hrun]
              refine run_v _ ?_
              rw [← hc, run_convert_bytes_string w src dst e _ _ _ hd1 hd3 hd2, run_bytesToString w _ _ _ ns (run_loadCells_of hv2 hv3), foldl_push_str]
              congr 2
              have : ByteArray.empty.data = #[] := rfl
              rw [this]
              simp [str]
            · simp at hc
          · simp at h
        · simp at h
    · simp at h
  · rename_i sz ag e zr pl sz' ag' e' zr' pl' p n c op hts htd hxe
    split at h
    · rename_i sz2 ag2 zr2 pl2 hte
      simp only [cond_eq_ite, Bool.and_eq_true, Nat.beq_eq] at h
      split at h
      · rename_i hcond
        obtain ⟨he, hsd⟩ := hcond
        subst he; subst hsd
        split at h
        · rename_i N z t e' md hg
          simp at h; obtain ⟨rfl, rfl⟩ := h
          obtain ⟨d1, hd1, rfl, _⟩ := (hE _ _ hts).und
          obtain ⟨d3, hd3, rfl, _⟩ := (hE _ _ hte).und
          have hc := hx _ hxe
          have hc0 := hc
          simp only [conc, concS] at hc
          split at hc
          · rename_i L hL
            injection hc with hc
            have hob := hs.obj _ _ _ hg hL
            obtain ⟨cells, fr, h1, h2, h3, h4, h5⟩ := hob
            obtain ⟨f1, f2, f3⟩ := freeze_at (n := cells.size) h1
            have hfr : (if fr.1 == fr.2 then (cells.size, cells.size + 1) else (min fr.1 cells.size, max fr.2 (cells.size + 1))) = (cells.size, cells.size + 1) := by
              rcases h2 with h2 | h2 <;> subst h2 <;> simp
            rw [hfr] at f1
            refine ⟨φ, a.eval x, w.freeze ⟨L.blk, cells.size, none⟩ 1, .inl ?_, ?_, hc0⟩
            · rw [hrun]
              refine run_v _ ?_
              rw [← hc]
              have hsh : w.shape? L.blk = some (e', cells.size) := by simp [World.shape?, h1]
              simp [convert, run_und hd1, run_und hd3, markStringish, hsh]
            · have hw : ∀ (b : Addr) (n : Nat), (w.freeze b n).os = w.os ∧ (w.freeze b n).tape = w.tape ∧ (w.freeze b n).output = w.output := by
                intro b n; unfold World.freeze; split <;> exact ⟨rfl, rfl, rfl⟩
              refine Post.upd hs hg hL rfl (o' := .arr N z t e' md) rfl (fun j => ?_) (hw _ _).1 (hw _ _).2.1 (hw _ _).2.2 f3 f2 ⟨cells, _, f1, .inr rfl, h3, h4, h5⟩
              by_cases e : j = p.1
              · subst e; rw [if_pos rfl, hg]
              · rw [if_neg e]
          · simp at hc
        · simp at h
      · simp at h
    · simp at h
  · simp at h

theorem op_buildSlice (hE : TyOk P E) (hs : Sat P φ s w) {t len : Nat} {ps : Array (Nat × Operand)} (ho : o.op = .buildSlice t len ps) (hev : OpsOk P φ tm a o)
    (h : doOp E cf tm s o = some (v, s')) : Done P φ s w s' v ((execOp a.eval o).run P w) := by
  have hps : ∀ p ∈ ps.toList, EvOk P φ tm a p.2 := fun p hp => hev p.2 (by
    simp only [ho, Op.operands, List.mem_toArray, List.mem_map]
    exact ⟨p, hp, rfl⟩)
  simp only [doOp, ho] at h
  split at h
  · rename_i sz ag e zr pl ht
    split at h
    · rename_i te hte
      simp only [cond_eq_ite, Nat.ble_eq] at h
      split at h
      · rename_i hle
        unfold lim at hle
        split at h
        · rename_i cs hcs
          simp at h; obtain ⟨rfl, rfl⟩ := h
          obtain ⟨d, hd, rfl, _⟩ := (hE _ _ ht).und
          obtain ⟨i, z, h1, h2, h3, h4, h5, h6⟩ := zero_row hE hte (φ := φ) len
          obtain ⟨_, _, _, _, _, _, _, hzl, _⟩ := (hE _ _ hte).info
          obtain ⟨xs', hf, hc'⟩ := fill_conc hE (fun i => some (i * te.size, te.size)) ps.toList _ _ _ hps h6 hcs
          have hlen : cs.length = len * te.size := by
            have : ∀ (place : Nat → Option (Nat × Nat)) (ps : List (Nat × Operand)) (c c' : List Sc), fillOp E tm place ps c = some c' → c'.length = c.length := by
              intro place ps
              induction ps with
              | nil => intro c c' h; simp [fillOp] at h; rw [h]
              | cons p r ih =>
                intro c c' h
                obtain ⟨i, x⟩ := p
                simp only [fillOp] at h
                split at h
                · simp only [cond_eq_ite, Bool.and_eq_true, Nat.beq_eq, Nat.ble_eq] at h
                  split at h
                  · rename_i hcond
                    rw [ih _ _ h, splice_length (by omega)]
                  · simp at h
                · simp at h
            rw [this _ _ _ _ hcs, repCells_length, ← hzl]
          refine ⟨φ.upd s.next ⟨w.heap.size, 0, 0⟩, .slice (some ⟨w.heap.size, 0, none⟩) len len, { w with heap := w.heap.push (.cells xs'.toArray e) }, .inl ?_, ?_,
            by simp [conc, concS, upd_self]⟩
          · simp only [execOp, ho]
            refine run_v _ ?_
            simp only [Instr.buildSlice, Sem.run_bind, run_und hd, Result.andThen_ok, run_sizeOf h1, h2, Sem.run_ite]
            rw [if_neg (by omega)]
            rw [Array.toArray_toList] at hf
            have hf2 : Instr.fill (fun i => some (i * te.size, te.size)) ((Array.range (len * te.size)).map fun k => z.cells[k % z.cells.size]!)
                (ps.map fun p => (p.1, a.eval p.2)).toList = some xs'.toArray := by rw [Array.toList_map]; exact hf
            by_cases h0 : len * te.size = 0
            · rw [if_pos h0]
              simp only [Sem.run_pure, Result.andThen_ok]
              have e0 : ∀ f g : Nat → Value, (Array.range (len * te.size)).map f = (Array.range (len * te.size)).map g := fun f g => by
                rw [h0, Array.eq_empty_of_size_eq_zero (xs := (Array.range 0).map f) (by simp), Array.eq_empty_of_size_eq_zero (xs := (Array.range 0).map g) (by simp)]
              rw [e0 _ (fun k => z.cells[k % z.cells.size]!)]
              rw [hf2]; simp [newRow]
            · rw [if_neg h0]
              simp only [Sem.run_bind, run_zeroValue h1 h4, Sem.run_pure, Result.andThen_ok]
              rw [hf2]; simp [newRow]
          · refine new_arr hs (by simpa using hc') hlen.symm (fun k c hk hc => ?_) false
            exact cellV_setCells _ _ _ _ _ (by omega) _ (by simpa using hc)
        · simp at h
      · simp at h
    · simp at h
  · simp at h

theorem mapM_places : ∀ (fs : List (Nat × Nat × Bool)) (gs : List Field), fs.length = gs.length →
    (∀ (j : Nat) (f : Nat × Nat × Bool), fs[j]? = some f → ∃ g fi, gs[j]? = some g ∧ g.offset = f.1 ∧ P.info? g.type = some fi ∧ fi.size = f.2.1) →
    gs.mapM (fun f => (P.info? f.type).map fun i => (f.offset, i.size)) = some (fs.map fun f => (f.1, f.2.1)) := by
  intro fs
  induction fs with
  | nil => intro gs h _; cases gs with | nil => rfl | cons => simp at h
  | cons f r ih =>
    intro gs h hall
    cases gs with
    | nil => simp at h
    | cons g q =>
      obtain ⟨g', fi, h1, h2, h3, h4⟩ := hall 0 f (by simp)
      simp at h1; subst h1
      have := ih q (by simpa using h) (fun j f hf => by simpa using hall (j + 1) f (by simpa using hf))
      rw [List.mapM_cons, this]
      simp [h3, h2, h4]

theorem op_build (hE : TyOk P E) (hs : Sat P φ s w) {t : Nat} {ps : Array (Nat × Operand)} (ho : o.op = .build t ps) (hev : OpsOk P φ tm a o)
    (h : doOp E cf tm s o = some (v, s')) : Done P φ s w s' v ((execOp a.eval o).run P w) := by
  have hps : ∀ p ∈ ps.toList, EvOk P φ tm a p.2 := fun p hp => hev p.2 (by
    simp only [ho, Op.operands, List.mem_toArray, List.mem_map]
    exact ⟨p, hp, rfl⟩)
  simp only [doOp, ho] at h
  cases ht : E.ty.get t with
  | none => simp [ht] at h
  | some ti =>
    simp only [ht] at h
    obtain ⟨i, z, h1, h2, h3, h4, h5, h6, h7, h8⟩ := (hE _ _ ht).info
    obtain ⟨d, hd, hk, hag⟩ := (hE _ _ ht).und
    have hz := concL_mono (Phi.nil_le φ) h5
    have fin : ∀ cells x, P.built t (ps.map fun p => (p.1, a.eval p.2)).toList = some cells → conc P φ v = some x → x = .agg cells → s' = s → Done P φ s w s' v ((execOp a.eval o).run P w) := by
      intro cells x hb hx hxc hss
      subst hss
      refine done_same hs ?_ hx
      simp only [execOp, ho]
      refine run_v _ ?_
      rw [hxc]
      exact run_build w t _ cells hb
    have zero : ps.isEmpty = true → v = .zag t → s' = s → ti.agg = true → (∀ cells, z.cells = cells → P.built t (ps.map fun p => (p.1, a.eval p.2)).toList = some cells) → Done P φ s w s' v ((execOp a.eval o).run P w) := by
      intro he hv hss ha hb
      obtain ⟨cs, rfl⟩ := h7 ha
      refine fin cs (.agg cs) (hb cs rfl) (by rw [hv]; simp [conc, zeroP, h1, h4]) rfl hss
    cases hkd : ti.kind with
    | struct fs =>
      simp only [hkd, cond_eq_ite] at h
      rw [hkd] at hk
      obtain ⟨fields, rfl, hlen, hall⟩ := hk
      have hplaces : fields.toList.mapM (fun f => (P.info? f.type).map fun i => (f.offset, i.size)) = some (fs.map fun f => (f.1, f.2.1)) := by
        refine mapM_places fs fields.toList (by simpa using hlen) fun j f hf => ?_
        obtain ⟨g, fi, gd, g1, g2, g3, g4, _⟩ := hall j f hf
        exact ⟨g, fi, by simpa using g1, g2, g3, g4⟩
      have hbuilt : ∀ cells, Instr.fill (fun i => (fs.map fun f => (f.1, f.2.1))[i]?) z.cells (ps.map fun p => (p.1, a.eval p.2)).toList = some cells →
          P.built t (ps.map fun p => (p.1, a.eval p.2)).toList = some cells := by
        intro cells hc
        simp only [Program.built, h1, hd, h4, hplaces]
        simpa using hc
      split at h
      · rename_i hem
        simp at h; obtain ⟨rfl, rfl⟩ := h
        refine zero hem rfl rfl (by rw [← hag]; rfl) (fun cells hc => hbuilt cells ?_)
        have : (ps.map fun p => (p.1, a.eval p.2)).toList = [] := by simp at hem; simp [hem]
        rw [this]; simp [Instr.fill, hc]
      · split at h
        · rename_i cs hcs
          simp at h; obtain ⟨rfl, rfl⟩ := h
          have hplace : place2 fs = (fun (i : Nat) => (fs.map fun f => (f.1, f.2.1))[i]?) := by
            funext i; unfold place2; rw [List.getElem?_map]; cases fs[i]? <;> rfl
          rw [hplace] at hcs
          obtain ⟨xs', hf, hc'⟩ := fill_conc hE _ ps.toList _ _ _ hps hz hcs
          exact fin xs'.toArray _ (hbuilt _ (by simpa using hf)) (by simp only [conc, hc']) rfl rfl
        · simp at h
    | arr n e =>
      simp only [hkd] at h
      rw [hkd] at hk
      obtain rfl := hk
      cases hte : E.ty.get e with
      | none => simp [hte] at h
      | some te =>
        simp only [hte, cond_eq_ite] at h
        obtain ⟨ei, ez, he1, he2, _⟩ := (hE _ _ hte).info
        have hbuilt : ∀ cells, Instr.fill (fun i => some (i * te.size, te.size)) z.cells (ps.map fun p => (p.1, a.eval p.2)).toList = some cells →
            P.built t (ps.map fun p => (p.1, a.eval p.2)).toList = some cells := by
          intro cells hc
          simp only [Program.built, h1, hd, h4, he1, he2]
          exact hc
        split at h
        · rename_i hem
          simp at h; obtain ⟨rfl, rfl⟩ := h
          refine zero hem rfl rfl (by rw [← hag]; rfl) (fun cells hc => hbuilt cells ?_)
          have : (ps.map fun p => (p.1, a.eval p.2)).toList = [] := by simp at hem; simp [hem]
          rw [this]; simp [Instr.fill, hc]
        · split at h
          · rename_i cs hcs
            simp at h; obtain ⟨rfl, rfl⟩ := h
            obtain ⟨xs', hf, hc'⟩ := fill_conc hE _ ps.toList _ _ _ hps hz hcs
            exact fin xs'.toArray _ (hbuilt _ (by simpa using hf)) (by simp only [conc, hc']) rfl rfl
          · simp at h
    | _ => simp [hkd] at h
end
end Go.Mx
