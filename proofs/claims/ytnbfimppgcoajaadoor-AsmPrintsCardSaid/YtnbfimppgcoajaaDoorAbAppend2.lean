/-
  A CALCULUS OVER ABSTRACT HEAPS: append is sound.
-/
import Derived.Test.YtnbfimppgcoajaaDoorAbAppend
namespace Go.Ab
set_option linter.unusedSimpArgs false
set_option linter.unusedVariables false
set_option linter.unusedSectionVars false
variable [Start]

omit [Go.Ab.Start] in
theorem zeroCells_size {z : Array Value} {n : Nat} : (Builtin.zeroCells z n).size = n * z.size := size_zeroCells z n

/-- A row that has grown out of what was appended: 'keep' of the cells that are named, and room behind them. -/
theorem Rel.grownRow {base : Nat} {w0 : World} {φ : Emb} {H : AHeap} {w : World} (r : Rel base w0 φ H w) {j : Nat} (hj : H j = .none) (t : TypeId) {cs ds : Array Value} (hr : ArrR φ cs ds) (h1 : ∀ v ∈ cs.toList, v.oneCell' = true) (zs : Array Value) :
    ∃ φ', Rel base w0 φ' (H.set j (.cells cs.toList)) (w.drew.alloc (.cells (ds ++ zs) t)) ∧ Step φ H w φ' (H.set j (.cells cs.toList)) (w.drew.alloc (.cells (ds ++ zs) t)) ∧ φ' j = some ⟨w.heap.size, 0, ds.size, ds.size + zs.size⟩ := by
  have hx := embed_ext ⟨w.heap.size, 0, ds.size, ds.size + zs.size⟩ (r.fresh hj)
  have hold : ∀ b, b < w.heap.size → (w.drew.alloc (.cells (ds ++ zs) t)).heap[b]? = w.heap[b]? := fun b hb => heap_alloc_old w.drew _ hb
  have hnew : (w.drew.alloc (.cells (ds ++ zs) t)).heap[w.heap.size]? = some (.cells (ds ++ zs) t) := heap_alloc_new w.drew _
  have hsz : w.heap.size ≤ (w.drew.alloc (.cells (ds ++ zs) t)).heap.size := by simp
  have r' := r.world hsz hold ⟨rfl, rfl⟩
  refine ⟨_, r'.extend hj (e := ⟨w.heap.size, 0, ds.size, ds.size + zs.size⟩) r.size (fun k d h hl => ?_) ?_ rfl, Step.extend hsz hold hj (r.fresh hj) fun h => (Nat.lt_irrefl _ h).elim, embed_same _ _ _⟩
  · have := (r.obj k d h).blk_lt (AObj.seen_of_live hl)
    simp only; omega
  · refine ⟨by simpa using hr.1, by simp, ⟨_, _, hnew⟩, fun k v hk => ?_, fun k hk => ?_⟩
    · obtain ⟨hk1, hk2⟩ := List.getElem?_eq_some_iff.1 hk
      have hk1' : k < cs.size := by simpa using hk1
      have hk3 : k < ds.size := by rw [← hr.1]; exact hk1'
      refine ⟨h1 v (by rw [← hk2]; exact List.getElem_mem hk1), ds[k], ?_, ?_⟩
      · rw [(cells_alloc hnew k).1, Array.getElem?_append_left hk3]; simp [hk3]
      · have := (hr.2 k hk1' hk3).mono hx
        rw [← hk2, Array.getElem_toList]; exact this
    · refine ⟨?_, (cells_alloc hnew k).2⟩
      rw [(cells_alloc hnew k).1]
      simpa using hk

omit [Go.Ab.Start] in
theorem ArrR.append {φ : Emb} {a b c d : Array Value} (h : ArrR φ a c) (h' : ArrR φ b d) : ArrR φ (a ++ b) (c ++ d) := by
  refine ⟨by simp [h.1, h'.1], fun i h1 h2 => ?_⟩
  rw [Array.getElem_append, Array.getElem_append]
  have := h.1
  by_cases hi : i < a.size
  · rw [dif_pos hi, dif_pos (by omega)]
    exact h.2 i hi (by omega)
  · rw [dif_neg hi, dif_neg (by omega)]
    simp only [← this]
    exact h'.2 (i - a.size) (by simp at h1; omega) (by simp at h2; omega)

theorem append_sound {P : Program} {base : Nat} {w0 : World} {φ : Emb} {H : AHeap} {w : World} (r : Rel base w0 φ H w) {t xt ty : TypeId} {s s' x x' : Value} (hs : VR φ s s') (hx : VR φ x x') {K : Value → AHeap → Prop} (h : appendW P t xt s x H K) :
    ∃ v' w', (Builtin.append_ #[t, xt] ty #[s', x']).run P w = .ok v' w' ∧ Post base w0 φ H w K v' w' := by
  unfold appendW at h
  cases he : elemA P t with
  | none => rw [he] at h; exact h.elim
  | some e =>
    rw [he] at h
    simp only at h
    obtain ⟨ht, i, z, hi, hz, hi1, hi2, hz2, hpos⟩ := elemA_spec he
    cases hn : newsA P H e.size xt x with
    | none => rw [hn] at h; exact h.elim
    | some q =>
      obtain ⟨news, m⟩ := q
      rw [hn] at h
      simp only at h
      obtain ⟨ds, d, hu, hd, hlen, hone, hr, hone', hlo, hf, hf'⟩ := news_run (P := P) r hx hn
      have hlen' : ds.length = m * e.size := by have := hr.1; simp at this; omega
      rw [← hi1] at hf hf'
      cases hs with
      | sliceNil n c =>
        cases n with
        | succ n => exact h.elim
        | zero =>
          cases c with
          | succ c => exact h.elim
          | zero =>
            simp only at h
            split at h
            · rename_i hm
              subst hm
              have hrun := run_append_in (P := P) w t xt ty e.ty i ht hu hd hi none 0 0 x' 0 ds.toArray hlo hf (by omega)
              exact ⟨_, _, hrun, φ, H, _, .refl φ H w, r, .sliceNil 0 0, h⟩
            · rename_i hm
              obtain ⟨⟨hb, h63⟩, hk⟩ := h
              have hrun := run_append_out (P := P) w t xt ty e.ty i z ht hu hd hi hz none 0 0 x' m #[] ds.toArray hlo (by simp [Builtin.firstCells]) hf' (by omega) (by omega) (by rw [hi2]; simpa using hb)
              obtain ⟨j, hj⟩ := r.someFresh
              obtain ⟨φ', r1, s1, hj'⟩ := r.grownRow hj e.ty hr (by simpa using hone) (Builtin.zeroCells z.cells (grownCap w (0 + m) 0 e.ty - (0 + m)))
              have hge := grownCap_ge w (0 + m) 0 e.ty
              refine ⟨_, _, hrun, φ', _, .slice (some ⟨j, 0, none⟩) m m, by simpa using s1, by simpa using r1, ?_, by simpa using hk j hj⟩
              have := VR.slice (φ := φ') (n := m) (c := m) (c' := grownCap w (0 + m) 0 e.ty) (k := 0) hj' (.inr (.inl ⟨rfl, by omega, by omega, e.size, hpos, by simpa using hlen', ?_⟩))
              · simpa using this
              · simp only [zeroCells_size, hz2, List.size_toArray, hlen', ← Nat.add_mul]
                exact Nat.mul_le_mul_right _ (by omega)
      | @sliceEmpty i k s a' c' => cases k <;> exact h.elim
      | @slice a k n c c' ent ha hc =>
        cases k with
        | succ k => simp only at h
        | zero =>
          simp only at h
          cases ho : H a with
          | none => rw [ho] at h; exact h.elim
          | dead => rw [ho] at h; exact h.elim
          | ro cs => rw [ho] at h; exact h.elim
          | map es => rw [ho] at h; exact h.elim
          | cells cs =>
            rw [ho] at h
            simp only at h
            have hobj := r.obj a ent ha
            rw [ho] at hobj
            obtain ⟨o1, o2, o3, o4, o5⟩ := hobj
            have hlive : (H a).live = true := by rw [ho]; rfl
            have hcc := hc.le
            split at h
            · -- it stays
              rename_i hroom
              obtain ⟨hfit, hk⟩ := h
              have hrun := run_append_in (P := P) w t xt ty e.ty i ht hu hd hi (some ⟨ent.blk, ent.off + 0, none⟩) n c' x' m ds.toArray hlo hf (by omega)
              have hle : n * e.size + news.length ≤ cs.length := by rw [hlen, ← Nat.add_mul]; exact hfit
              obtain ⟨r1, s1, hex⟩ := r.put ha ho news ds (k := n * e.size) hle hone hr
              have hst := run_storeCells_cells (P := P) ent.blk (ent.off + n * e.size) ds 0 w (fun j hj => by simpa using (hex j hj).1) (fun j hj => by simpa using (hex j hj).2) hone'
              rw [Nat.add_zero] at hst
              simp only [add_off, Nat.add_zero, hi1, hst, Result.andThen_ok] at hrun
              exact ⟨_, _, hrun, φ, _, _, s1, r1, .slice (k := 0) ha hc, hk⟩
            · -- it may stay, or not: it has a new name
              rename_i hroom
              obtain ⟨⟨hcl, hnc, hb, h63⟩, hk⟩ := h
              have htake : n * e.size ≤ cs.length := by rw [hcl]; exact Nat.mul_le_mul_right _ hnc
              have hcs : cellsOf (H a) = some cs := by rw [ho]; rfl
              obtain ⟨os, ol, oh, oone, orel⟩ := row_of r ha hcs 0 (n * e.size) (by omega)
              rw [List.drop_zero] at orel
              have hnewrel : ArrR φ (cs.take (n * e.size) ++ news).toArray (os ++ ds).toArray := by
                have := orel.append hr
                simpa using this
              have hnewone : ∀ v ∈ cs.take (n * e.size) ++ news, v.oneCell' = true := by
                intro v hv
                rcases List.mem_append.1 hv with hv | hv
                · obtain ⟨q, hq, rfl⟩ := List.getElem_of_mem (List.mem_of_mem_take hv)
                  exact (o4 q _ (List.getElem?_eq_getElem hq)).1
                · exact hone v hv
              have hnewlen : (os ++ ds).length = (n + m) * e.size := by rw [List.length_append, ol, hlen', Nat.add_mul]
              obtain ⟨j, hj⟩ := r.someFresh
              have hja : j ≠ a := by rintro rfl; rw [hj] at ho; cases ho
              have hj1 : (H.set a .dead) j = .none := by rw [H.set_ne _ hja]; exact hj
              have rk := r.kill a
              by_cases hin : n + m ≤ c'
              · -- behind what was there
                have hloose : 0 < c ∧ ent.n = c * e.size ∧ c' * e.size ≤ ent.cap := by
                  rcases hc with rfl | ⟨_, h0, _, s, hs0, hs1, hs2⟩ | ⟨h0, _⟩
                  · omega
                  · have : s = e.size := by
                      have h5 : c * s = c * e.size := by omega
                      exact Nat.eq_of_mul_eq_mul_left h0 h5
                    subst this
                    exact ⟨h0, hs1, hs2⟩
                  · omega
                have hrun := run_append_in (P := P) w t xt ty e.ty i ht hu hd hi (some ⟨ent.blk, ent.off + 0, none⟩) n c' x' m ds.toArray hlo hf hin
                have hcapn : (n + m) * e.size ≤ ent.cap := Nat.le_trans (Nat.mul_le_mul_right _ hin) hloose.2.2
                have hex : ∀ q, q < ds.length → (w.cell? ⟨ent.blk, ent.off + n * e.size + q, none⟩).isSome = true ∧ w.frozen? ⟨ent.blk, ent.off + n * e.size + q, none⟩ = false := fun q hq => by
                  have := o5 (n * e.size + q) (by rw [Nat.add_mul] at hcapn; omega)
                  rwa [← Nat.add_assoc] at this
                have hst := run_storeCells_cells (P := P) ent.blk (ent.off + n * e.size) ds 0 w (fun j hj => by simpa using (hex j hj).1) (fun j hj => by simpa using (hex j hj).2) hone'
                rw [Nat.add_zero] at hst
                simp only [add_off, Nat.add_zero, hi1, hst, Result.andThen_ok] at hrun
                have hbase := r.own a ent ha hlive
                have hnob : ∀ q d, φ q = some d → ((H.set a .dead) q).live = true → d.blk ≠ ent.blk := fun q d hq hl hb => by
                  unfold AHeap.set at hl
                  split at hl
                  · cases hl
                  · rename_i hqa
                    exact hqa (r.sep q a d ent hq ha hl hlive hb)
                have r2 := rk.scribble (w' := w.setCells ent.blk (ent.off + n * e.size) ds) hbase hnob (size_setCells _ _ _ _) (fun q hq => heap_setCells _ _ _ _ q hq) (io_setCells _ _ _ _)
                have hx2 := embed_ext ⟨ent.blk, ent.off, (n + m) * e.size, ent.cap⟩ (r2.fresh hj1)
                have r3 := r2.extend hj1 (e := ⟨ent.blk, ent.off, (n + m) * e.size, ent.cap⟩) (o := .cells (cs.take (n * e.size) ++ news)) hbase hnob (by
                  refine ⟨by have := hnewrel.1; simp only [List.size_toArray] at this; rw [this, hnewlen], hcapn, shape_setCells _ _ _ _ o3, fun q v hq => ?_, fun q hq => ?_⟩
                  · obtain ⟨hq1, hq2⟩ := List.getElem?_eq_some_iff.1 hq
                    refine ⟨hnewone v (by rw [← hq2]; exact List.getElem_mem hq1), (os ++ ds)[q]'(by have := hnewrel.1; simp only [List.size_toArray] at this; omega), ?_, ?_⟩
                    · simp only
                      by_cases hlt : q < n * e.size
                      · rw [World.cell?_setCells_out _ _ _ _ _ (fun _ _ => by simp only; omega)]
                        rw [List.getElem_append_left (by omega)]
                        have := oh q os[q] (List.getElem?_eq_getElem (by omega))
                        rwa [Nat.add_zero] at this
                      · rw [List.getElem_append_right (by omega)]
                        have hq3 : q - os.length < ds.length := by
                          have h6 : q < (os ++ ds).length := by have := hnewrel.1; simp only [List.size_toArray] at this; omega
                          rw [List.length_append] at h6; omega
                        have := World.cell?_setCells_in ent.blk ds (ent.off + n * e.size) w (fun j hj => (hex j hj).1) (q - os.length) hq3
                        rw [← this]
                        congr 2
                        omega
                    · have := (hnewrel.2 q (by simpa using hq1) (by have := hnewrel.1; simp only [List.size_toArray] at this ⊢; omega)).mono hx2
                      simp only [List.getElem_toArray] at this
                      rw [hq2] at this
                      exact this
                  · simp only at hq ⊢
                    constructor
                    · by_cases hin2 : n * e.size ≤ q ∧ q < n * e.size + ds.length
                      · have := World.cell?_setCells_in ent.blk ds (ent.off + n * e.size) w (fun j hj => (hex j hj).1) (q - n * e.size) (by omega)
                        rw [show ent.off + n * e.size + (q - n * e.size) = ent.off + q by omega] at this
                        rw [this]; rfl
                      · rw [World.cell?_setCells_out _ _ _ _ _ (fun _ _ => by simp only; omega)]
                        exact (o5 q hq).1
                    · rw [World.frozen?_setCells]
                      exact (o5 q hq).2) rfl
                refine ⟨_, _, hrun, _, _, .slice (some ⟨j, 0, none⟩) (n + m) (n + m), ?_, r3, ?_, hk j hj⟩
                · refine ⟨embed_ext _ (r.fresh hj), by rw [size_setCells]; exact Nat.le_refl _, fun q h1 h2 => ?_, fun b hb hno => ?_, fun q d h1 h2 h4 => ?_⟩
                  · have hqa : q ≠ a := by rintro rfl; rw [ha] at h1; cases h1
                    have hqj : q ≠ j := by rintro rfl; exact h2 hj
                    refine ⟨by unfold embed; rw [if_neg hqj]; exact h1, ?_⟩
                    rw [AHeap.set_ne _ _ hqj, AHeap.set_ne _ _ hqa]
                  · exact heap_setCells _ _ _ _ b (fun hb => hno a ent ha hlive hb.symm)
                  · unfold embed at h1
                    split at h1
                    · cases h1; exact ⟨a, ent, ha, hlive, rfl⟩
                    · rename_i hqj
                      rw [AHeap.set_ne _ _ hqj] at h2
                      unfold AHeap.set at h2
                      split at h2
                      · cases h2
                      · exact ⟨q, d, h1, h2, rfl⟩
                · have := VR.slice (φ := embed φ j ⟨ent.blk, ent.off, (n + m) * e.size, ent.cap⟩) (n := n + m) (c := n + m) (c' := c') (k := 0) (embed_same _ _ _) (.inr (.inl ⟨rfl, by omega, hin, e.size, hpos, rfl, hloose.2.2⟩))
                  exact this
              · -- a new row
                have hrun := run_append_out (P := P) w t xt ty e.ty i z ht hu hd hi hz (some ⟨ent.blk, ent.off + 0, none⟩) n c' x' m os.toArray ds.toArray hlo
                  (run_firstCells_some w.drew i.size n _ n c' os (by rw [hi1]; exact ol) (fun q v hq => by rw [add_off, World.cell?_drew]; exact oh q v hq)) hf' (by omega) h63 (by rw [hi2]; exact hb)
                obtain ⟨φ', r1, s1, hj'⟩ := rk.grownRow hj1 e.ty hnewrel (by simpa using hnewone) (Builtin.zeroCells z.cells (grownCap w (n + m) c' e.ty - (n + m)))
                have hge := grownCap_ge w (n + m) c' e.ty
                have e0 : os.toArray ++ ds.toArray = (os ++ ds).toArray := by simp
                rw [e0] at hrun
                refine ⟨_, _, hrun, φ', _, .slice (some ⟨j, 0, none⟩) (n + m) (n + m), (Step.kill ha).trans (by simpa using s1), by simpa using r1, ?_, hk j hj⟩
                have := VR.slice (φ := φ') (n := n + m) (c := n + m) (c' := grownCap w (n + m) c' e.ty) (k := 0) hj' (.inr (.inl ⟨rfl, by omega, hge, e.size, hpos, by simpa using hnewlen, ?_⟩))
                · simpa using this
                · simp only [zeroCells_size, hz2, List.size_toArray, hnewlen, ← Nat.add_mul]
                  exact Nat.mul_le_mul_right _ (by omega)
      | _ => exact h.elim
end Go.Ab
