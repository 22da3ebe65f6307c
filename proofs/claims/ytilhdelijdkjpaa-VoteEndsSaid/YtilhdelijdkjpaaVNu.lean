import Derived.Test.YtilhdelijdkjpaaVL
import Derived.Deep.RegionLaw
import Derived.Deep.AppendLies
set_option linter.unusedVariables false
set_option linter.unusedSimpArgs false
/-
  four: a number as four bytes.
-/
namespace Go.Proofs.Ytilhdelijdkjpaa
open Go Go.RowKit Go.Maps Sac

theorem rb_four (w : World) (n : Nat) (hn : n < 4294967296) : RB (w.alloc (.cells #[.int .u8 ((n : Int) / 16777216), .int .u8 ((n : Int) / 65536 % 256), .int .u8 ((n : Int) / 256 % 256), .int .u8 ((n : Int) % 256)] 5)) (.slice (some ⟨w.heap.size, 0, none⟩) 4 4) (four n) := by
  refine ⟨some ⟨w.heap.size, 0, none⟩, 4, rfl, Nat.le_refl _, by decide, (fun h => by cases h), ?_, fun x hx => ?_⟩
  · have hb : ∀ l : List Value, l = [.int .u8 ((n : Int) / 16777216), .int .u8 ((n : Int) / 65536 % 256), .int .u8 ((n : Int) / 256 % 256), .int .u8 ((n : Int) % 256)] → Blk (w.alloc (.cells #[.int .u8 ((n : Int) / 16777216), .int .u8 ((n : Int) / 65536 % 256), .int .u8 ((n : Int) / 256 % 256), .int .u8 ((n : Int) % 256)] 5)) w.heap.size 5 l := fun l h => by rw [h]; exact Blk.new w _ _
    have e : (four n).map by8 ++ [] = [.int .u8 ((n : Int) / 16777216), .int .u8 ((n : Int) / 65536 % 256), .int .u8 ((n : Int) / 256 % 256), .int .u8 ((n : Int) % 256)] := by
      have e1 : ((n / 16777216 % 256 : Nat) : Int) = (n : Int) / 16777216 := by omega
      have e2 : ((n / 65536 % 256 : Nat) : Int) = (n : Int) / 65536 % 256 := by omega
      have e3 : ((n / 256 % 256 : Nat) : Int) = (n : Int) / 256 % 256 := by omega
      have e4 : ((n % 256 : Nat) : Int) = (n : Int) % 256 := by omega
      simp only [four, List.map_cons, List.map_nil, by8, e1, e2, e3, e4, List.append_nil]
    exact (hb _ e).rd
  · simp only [four, List.mem_cons, List.not_mem_nil, or_false] at hx
    omega

set_option maxRecDepth 100000 in
set_option maxHeartbeats 2000000 in
theorem four_own (base : Nat) (v : Value) (bs : Bs) (n : Nat) (w : World) (h : Buf w base v bs) (hn : n < 4294967296) (hlen : bs.length ≤ 10000000000000) (hbase : base ≤ w.heap.size) :
    Calls Try.prog 58 #[v, .int .i64 (n : Int)] w fun e w' => ∃ v', e = .returned v' ∧ Buf w' base v' (bs ++ four n) ∧ Only (fun k => v.ownBlock = some k) w w' ∧ (∀ k, v'.ownBlock = some k → v.ownBlock = some k ∨ w.heap.size ≤ k) := by
  have H := Lib.hid h
  have HN := Lib.hid hn
  clear h
  go_enter Try.func58, Try.ntmps58
  have HBW : Hid (Below w.heap.size w (w.alloc (.cells #[.int .u8 ((n : Int) / 16777216), .int .u8 ((n : Int) / 65536 % 256), .int .u8 ((n : Int) / 256 % 256), .int .u8 ((n : Int) % 256)] 5))) := (Below.refl _ w).alloc (Nat.le_refl _) _
  have HR := Lib.hid (rb_four w n hn)
  go_wp2_with (first | (refine wpList_append_buf _ rfl (.tmp 5) (.tmp 17) rfl base _ bs rfl (H.out.below HBW.out) _ (four n) rfl HR.out (by simp only [four, List.length_cons, List.length_nil]; omega) (Nat.le_trans hbase HBW.out.size) ?_; intro v' w' hbuf hgr hown; have HBF := Lib.hid hbuf; have HGR := Lib.hid hgr; have HOWN := Lib.hid hown; clear hbuf hgr hown))
  go_ret
  exact ⟨_, rfl, HBF.out, (Only.below HBW.out).grown HGR.out (fun k e _ => e), fun k hk => (HOWN.out k hk).imp id (fun h => Nat.le_trans HBW.out.size h)⟩

theorem four_any (base : Nat) (v : Value) (bs : Bs) (n : Nat) (w : World) (h : Buf w base v bs) (hn : n < 4294967296) (hlen : bs.length ≤ 10000000000000) (hbase : base ≤ w.heap.size) :
    Calls Try.prog 58 #[v, .int .i64 (n : Int)] w fun e w' => ∃ v', e = .returned v' ∧ Buf w' base v' (bs ++ four n) ∧ Only (fun k => v.ownBlock = some k) w w' :=
  (four_own base v bs n w h hn hlen hbase).mono fun e w' ⟨v', a, b, c, _⟩ => ⟨v', a, b, c⟩

end Go.Proofs.Ytilhdelijdkjpaa
/-
  The writer of wire: num.
-/
namespace Go.Proofs.Ytilhdelijdkjpaa
open Go Go.RowKit Go.Maps Sac

/-- A writer: its bytes, and whether something was out of bounds. -/
def WAt (w : World) (base B : Nat) (bs : Bs) (bad : Bool) : Prop := ∃ v, Blk w B 121 [v, .bool bad] ∧ Buf w base v bs

theorem rb_lit (w : World) (x : Nat) (hx : x < 256) : RB (w.alloc (Obj.cells #[.int .u8 (x : Int)] 5)) (.slice (some ⟨w.heap.size, 0, none⟩) 1 1) [x] :=
  ⟨some ⟨w.heap.size, 0, none⟩, 1, rfl, Nat.le_refl 1, by decide, (fun h => by cases h), Blk.rd (rest := []) (Blk.new w [.int .u8 (x : Int)] 5), fun y hy => by rw [List.mem_singleton.1 hy]; exact hx⟩
set_option maxRecDepth 100000 in
set_option maxHeartbeats 2000000 in
theorem num_any (base B : Nat) (bs : Bs) (bad : Bool) (n least most : Int) (size : Nat) (w : World) (h : WAt w base B bs bad) (hB : base ≤ B) (hs : 1 ≤ size ∧ size ≤ 4) (hlen : bs.length ≤ 10000000000000) (hn : IntKind.i64.wrap n = n) :
    Calls Try.prog 64 #[.pointer (some ⟨B, 0, none⟩), .int .i64 n, .int .i64 least, .int .i64 most, .int .i64 (size : Int)] w fun e w' => e = .returned (.tuple #[]) ∧ ∃ bs', bs'.length = bs.length + size ∧ WAt w' base B bs' (bad || decide (n < least) || decide (most < n)) ∧ Below base w w' := by
  obtain ⟨v, hb, hbuf⟩ := h
  have c1 := hb.cell 1
  have f1 := hb.frozen 1
  simp only [List.getElem?_cons_zero, List.getElem?_cons_succ] at c1
  obtain ⟨g, hg⟩ : ∃ g, (bad || decide (n < least) || decide (most < n)) = g := ⟨_, rfl⟩
  obtain ⟨x, hx⟩ : ∃ x, decide (n < least) = x := ⟨_, rfl⟩
  obtain ⟨y, hy⟩ : ∃ y, decide (most < n) = y := ⟨_, rfl⟩
  rw [hx, hy] at hg
  rw [hx, hy, hg]
  have h1 : IntKind.i64.wrap ((size : Int) - 1) = (size : Int) - 1 := by rw [IntKind.wrap_i64]; omega
  have HB := Lib.hid hb
  have HBU := Lib.hid hbuf
  have HG := Lib.hid hg
  clear hb hbuf hg
  go_enter Try.func64, Try.ntmps64
  go_upto_region 0 with fail
  go_cut [] from 11 to 27 (fun wx => Hid (WAt wx base B bs g) ∧ Hid (Below base w wx))
  case first =>
    cases bad <;> cases x <;> cases y
    all_goals
      go_wp2_with fail
      go_meet
      obtain rfl := HG.out
      refine ⟨⟨v, HB.out.set 1 _, HBU.out.same fun k hk => ?_⟩, (Below.refl _ w).setCell (p := ⟨B, 1, none⟩) hB _⟩
      exact (Only.setCell (F := (· = B)) (Only.refl _ w) (p := ⟨B, 1, none⟩) (fun _ => rfl) _).block k (HBU.out.lt hk).2.1 ((HBU.out.lt hk).2.2.ne HB.out (by decide))
  case rest =>
    obtain ⟨HW, HBE⟩ := hcut
    clear c1 f1
    go_wp2_with fail
    go_loopg [10] size (fun k t10 wr => t10 = .int .i64 ((k : Int) - 1) ∧ k ≤ size ∧ ∃ bs' : Bs, Hid (bs'.length = bs.length + (size - k)) ∧ Hid (WAt wr base B bs' g) ∧ Hid (Below base w wr))
    case atStart => exact ⟨rfl, Nat.le_refl _, bs, by show _ = _; omega, HW, HBE⟩
    case round =>
      obtain ⟨rfl, hk, bs', HL, HWr, HBr⟩ := hrel
      clear HW HBE
      by_cases h0 : gk = 0
      · subst h0
        go_wp2_with fail
        go_end0
        exact ⟨rfl, bs', by have := HL.out; omega, HWr.out, HBr.out⟩
      · obtain ⟨j, rfl⟩ : ∃ j, gk = j + 1 := ⟨gk - 1, by omega⟩
        obtain ⟨v2, hb2, hbu2⟩ := HWr.out
        have c0 := hb2.cell 0
        have f0 := hb2.frozen 0
        simp only [List.getElem?_cons_zero, List.getElem?_cons_succ] at c0
        obtain ⟨xa, xn, xc, rfl⟩ := RB.form hbu2.rb
        have HB2 := Lib.hid hb2
        have HBU2 := Lib.hid hbu2
        clear hb2 hbu2
        have hj : j = 0 ∨ j = 1 ∨ j = 2 ∨ j = 3 := by omega
        obtain ⟨u, hu⟩ : ∃ u : Nat, IntKind.u64.wrap n = (u : Int) := ⟨(IntKind.u64.wrap n).toNat, by rw [IntKind.wrap_u64]; omega⟩
        have hbs : base ≤ wr.heap.size := by have := HB2.out.lt; omega
        rcases hj with rfl | rfl | rfl | rfl
        · obtain ⟨y, hy2⟩ : ∃ y, u = y := ⟨_, rfl⟩
          rw [hy2] at hu
          have hwm : IntKind.i64.wrap 0 = 0 := by decide
          obtain ⟨z, hz⟩ : ∃ z : Nat, IntKind.u8.wrap (y : Int) = (z : Int) := ⟨(IntKind.u8.wrap (y : Int)).toNat, by rw [IntKind.wrap_u8]; omega⟩
          have hz8 : z < 256 := by rw [IntKind.wrap_u8] at hz; omega
          have HR := Lib.hid (rb_lit wr.drew z hz8)
          have HBA : Hid (Below base wr (wr.drew.alloc (Obj.cells #[.int .u8 (z : Int)] 5))) := ((Below.refl base wr).drew).alloc (by have := HBr.out.size; show base ≤ wr.heap.size; omega) _
          have HUA := Lib.hid (HBU2.out.below (((Below.refl wr.heap.size wr).drew).alloc (Nat.le_refl _) (Obj.cells #[.int .u8 (z : Int)] 5)))
          have HBK := Lib.hid (HB2.out.below (((Below.refl wr.heap.size wr).drew).alloc (Nat.le_refl _) (Obj.cells #[.int .u8 (z : Int)] 5)) HB2.out.lt)
          have hsz : base ≤ (wr.drew.alloc (Obj.cells #[.int .u8 (z : Int)] 5)).heap.size := Nat.le_trans hbs HBA.out.size
          have HR2 : Hid (RB (wr.alloc (Obj.cells #[.int .u8 (z : Int)] 5)).drew (.slice (some ⟨wr.heap.size, 0, none⟩) 1 1) [z]) := (rb_lit wr z hz8).below (Below.refl _ _).drew
          have hba2 : Below wr.heap.size wr (wr.alloc (Obj.cells #[.int .u8 (z : Int)] 5)).drew := ((Below.refl wr.heap.size wr).alloc (Nat.le_refl _) _).drew
          have HUA2 := Lib.hid (HBU2.out.below hba2)
          have HBK2 := Lib.hid (HB2.out.below hba2 HB2.out.lt)
          have hsz2 : base ≤ (wr.alloc (Obj.cells #[.int .u8 (z : Int)] 5)).drew.heap.size := Nat.le_trans hbs hba2.size
          have HBA2 := Lib.hid hba2
          have c0b : (wr.alloc (Obj.cells #[.int .u8 (z : Int)] 5)).drew.cell? ⟨B, 0, none⟩ = some (.slice xa xn xc) := HBK2.out.cell 0
          have c0c : (wr.alloc (Obj.cells #[.int .u8 (z : Int)] 5)).cell? ⟨B, 0, none⟩ = some (.slice xa xn xc) := HBK2.out.cell 0
          clear hy2 hz8 hba2
          go_wp2_with fail
          rename_i Kc hKc
          go_region_law (first
            | (refine step_append_buf rfl (.tmp 38) (.tmp 45) rfl base (.slice xa xn xc) bs' rfl HUA.out (.slice (some ⟨wr.heap.size, 0, none⟩) 1 1) [z] rfl HR.out (by have := HL.out; rw [List.length_singleton]; omega) hsz ?_; intro v' w5 hbuf hgr hf; obtain ⟨ya, yn, yc, rfl⟩ := RB.form hbuf.rb; have hbk5 := HBK.out.same (hgr.block B HBK.out.lt (fun e => ((HUA.out.lt e.symm).2.2.ne HBK.out (by decide)) rfl)); have c5 := hbk5.cell 0; have f5 := hbk5.frozen 0; simp only [List.getElem?_cons_zero] at c5; have HU5 := Lib.hid hbuf; have HG5 := Lib.hid hgr; have HK5 := Lib.hid hbk5; clear hbuf hgr hf hbk5)
            | (refine step_append_buf rfl (.tmp 38) (.tmp 45) rfl base (.slice xa xn xc) bs' rfl HUA2.out (.slice (some ⟨wr.heap.size, 0, none⟩) 1 1) [z] rfl HR2.out (by have := HL.out; rw [List.length_singleton]; omega) hsz2 ?_; intro v' w5 hbuf hgr hf; obtain ⟨ya, yn, yc, rfl⟩ := RB.form hbuf.rb; have hbk5 := HBK2.out.same (hgr.block B HBK2.out.lt (fun e => ((HUA2.out.lt e.symm).2.2.ne HBK2.out (by decide)) rfl)); have c5 := hbk5.cell 0; have f5 := hbk5.frozen 0; simp only [List.getElem?_cons_zero] at c5; have HU5 := Lib.hid hbuf; have HG5 := Lib.hid hgr; have HK5 := Lib.hid hbk5; clear hbuf hgr hf hbk5)
            | fail)
          all_goals
            refine hKc _ _ ?_
            go_wp2_with fail
            go_roundg 0
            case measure => omega
            case rel =>
              have hO := (Only.setCell (F := (· = B)) (Only.refl _ w5) (p := ⟨B, 0, none⟩) (fun _ => rfl) (.slice ya yn yc))
              exact ⟨rfl, by omega, bs' ++ [z], by show _ = _; rw [List.length_append, HL.out, List.length_singleton]; omega, ⟨_, HK5.out.set 0 _, HU5.out.same fun k hk => hO.block k (HU5.out.lt hk).2.1 ((HU5.out.lt hk).2.2.ne HK5.out (by decide))⟩, (HBr.out.trans (below_grown (HBA.out) HG5.out (fun k hk => (HUA.out.lt hk).1) hsz)).setCell (p := ⟨B, 0, none⟩) hB _⟩
        · have hy2 : True := trivial
          have hwm : IntKind.i64.wrap 8 = 8 := by decide
          obtain ⟨z, hz⟩ : ∃ z : Nat, IntKind.u8.wrap ((u : Int) / 256) = (z : Int) := ⟨(IntKind.u8.wrap ((u : Int) / 256)).toNat, by rw [IntKind.wrap_u8]; omega⟩
          have hz8 : z < 256 := by rw [IntKind.wrap_u8] at hz; omega
          have HR := Lib.hid (rb_lit wr.drew z hz8)
          have HBA : Hid (Below base wr (wr.drew.alloc (Obj.cells #[.int .u8 (z : Int)] 5))) := ((Below.refl base wr).drew).alloc (by have := HBr.out.size; show base ≤ wr.heap.size; omega) _
          have HUA := Lib.hid (HBU2.out.below (((Below.refl wr.heap.size wr).drew).alloc (Nat.le_refl _) (Obj.cells #[.int .u8 (z : Int)] 5)))
          have HBK := Lib.hid (HB2.out.below (((Below.refl wr.heap.size wr).drew).alloc (Nat.le_refl _) (Obj.cells #[.int .u8 (z : Int)] 5)) HB2.out.lt)
          have hsz : base ≤ (wr.drew.alloc (Obj.cells #[.int .u8 (z : Int)] 5)).heap.size := Nat.le_trans hbs HBA.out.size
          have HR2 : Hid (RB (wr.alloc (Obj.cells #[.int .u8 (z : Int)] 5)).drew (.slice (some ⟨wr.heap.size, 0, none⟩) 1 1) [z]) := (rb_lit wr z hz8).below (Below.refl _ _).drew
          have hba2 : Below wr.heap.size wr (wr.alloc (Obj.cells #[.int .u8 (z : Int)] 5)).drew := ((Below.refl wr.heap.size wr).alloc (Nat.le_refl _) _).drew
          have HUA2 := Lib.hid (HBU2.out.below hba2)
          have HBK2 := Lib.hid (HB2.out.below hba2 HB2.out.lt)
          have hsz2 : base ≤ (wr.alloc (Obj.cells #[.int .u8 (z : Int)] 5)).drew.heap.size := Nat.le_trans hbs hba2.size
          have HBA2 := Lib.hid hba2
          have c0b : (wr.alloc (Obj.cells #[.int .u8 (z : Int)] 5)).drew.cell? ⟨B, 0, none⟩ = some (.slice xa xn xc) := HBK2.out.cell 0
          have c0c : (wr.alloc (Obj.cells #[.int .u8 (z : Int)] 5)).cell? ⟨B, 0, none⟩ = some (.slice xa xn xc) := HBK2.out.cell 0
          clear hy2 hz8 hba2
          go_wp2_with fail
          rename_i Kc hKc
          go_region_law (first
            | (refine step_append_buf rfl (.tmp 38) (.tmp 45) rfl base (.slice xa xn xc) bs' rfl HUA.out (.slice (some ⟨wr.heap.size, 0, none⟩) 1 1) [z] rfl HR.out (by have := HL.out; rw [List.length_singleton]; omega) hsz ?_; intro v' w5 hbuf hgr hf; obtain ⟨ya, yn, yc, rfl⟩ := RB.form hbuf.rb; have hbk5 := HBK.out.same (hgr.block B HBK.out.lt (fun e => ((HUA.out.lt e.symm).2.2.ne HBK.out (by decide)) rfl)); have c5 := hbk5.cell 0; have f5 := hbk5.frozen 0; simp only [List.getElem?_cons_zero] at c5; have HU5 := Lib.hid hbuf; have HG5 := Lib.hid hgr; have HK5 := Lib.hid hbk5; clear hbuf hgr hf hbk5)
            | (refine step_append_buf rfl (.tmp 38) (.tmp 45) rfl base (.slice xa xn xc) bs' rfl HUA2.out (.slice (some ⟨wr.heap.size, 0, none⟩) 1 1) [z] rfl HR2.out (by have := HL.out; rw [List.length_singleton]; omega) hsz2 ?_; intro v' w5 hbuf hgr hf; obtain ⟨ya, yn, yc, rfl⟩ := RB.form hbuf.rb; have hbk5 := HBK2.out.same (hgr.block B HBK2.out.lt (fun e => ((HUA2.out.lt e.symm).2.2.ne HBK2.out (by decide)) rfl)); have c5 := hbk5.cell 0; have f5 := hbk5.frozen 0; simp only [List.getElem?_cons_zero] at c5; have HU5 := Lib.hid hbuf; have HG5 := Lib.hid hgr; have HK5 := Lib.hid hbk5; clear hbuf hgr hf hbk5)
            | fail)
          all_goals
            refine hKc _ _ ?_
            go_wp2_with fail
            go_roundg 1
            case measure => omega
            case rel =>
              have hO := (Only.setCell (F := (· = B)) (Only.refl _ w5) (p := ⟨B, 0, none⟩) (fun _ => rfl) (.slice ya yn yc))
              exact ⟨rfl, by omega, bs' ++ [z], by show _ = _; rw [List.length_append, HL.out, List.length_singleton]; omega, ⟨_, HK5.out.set 0 _, HU5.out.same fun k hk => hO.block k (HU5.out.lt hk).2.1 ((HU5.out.lt hk).2.2.ne HK5.out (by decide))⟩, (HBr.out.trans (below_grown (HBA.out) HG5.out (fun k hk => (HUA.out.lt hk).1) hsz)).setCell (p := ⟨B, 0, none⟩) hB _⟩
        · have hy2 : True := trivial
          have hwm : IntKind.i64.wrap 16 = 16 := by decide
          obtain ⟨z, hz⟩ : ∃ z : Nat, IntKind.u8.wrap ((u : Int) / 65536) = (z : Int) := ⟨(IntKind.u8.wrap ((u : Int) / 65536)).toNat, by rw [IntKind.wrap_u8]; omega⟩
          have hz8 : z < 256 := by rw [IntKind.wrap_u8] at hz; omega
          have HR := Lib.hid (rb_lit wr.drew z hz8)
          have HBA : Hid (Below base wr (wr.drew.alloc (Obj.cells #[.int .u8 (z : Int)] 5))) := ((Below.refl base wr).drew).alloc (by have := HBr.out.size; show base ≤ wr.heap.size; omega) _
          have HUA := Lib.hid (HBU2.out.below (((Below.refl wr.heap.size wr).drew).alloc (Nat.le_refl _) (Obj.cells #[.int .u8 (z : Int)] 5)))
          have HBK := Lib.hid (HB2.out.below (((Below.refl wr.heap.size wr).drew).alloc (Nat.le_refl _) (Obj.cells #[.int .u8 (z : Int)] 5)) HB2.out.lt)
          have hsz : base ≤ (wr.drew.alloc (Obj.cells #[.int .u8 (z : Int)] 5)).heap.size := Nat.le_trans hbs HBA.out.size
          have HR2 : Hid (RB (wr.alloc (Obj.cells #[.int .u8 (z : Int)] 5)).drew (.slice (some ⟨wr.heap.size, 0, none⟩) 1 1) [z]) := (rb_lit wr z hz8).below (Below.refl _ _).drew
          have hba2 : Below wr.heap.size wr (wr.alloc (Obj.cells #[.int .u8 (z : Int)] 5)).drew := ((Below.refl wr.heap.size wr).alloc (Nat.le_refl _) _).drew
          have HUA2 := Lib.hid (HBU2.out.below hba2)
          have HBK2 := Lib.hid (HB2.out.below hba2 HB2.out.lt)
          have hsz2 : base ≤ (wr.alloc (Obj.cells #[.int .u8 (z : Int)] 5)).drew.heap.size := Nat.le_trans hbs hba2.size
          have HBA2 := Lib.hid hba2
          have c0b : (wr.alloc (Obj.cells #[.int .u8 (z : Int)] 5)).drew.cell? ⟨B, 0, none⟩ = some (.slice xa xn xc) := HBK2.out.cell 0
          have c0c : (wr.alloc (Obj.cells #[.int .u8 (z : Int)] 5)).cell? ⟨B, 0, none⟩ = some (.slice xa xn xc) := HBK2.out.cell 0
          clear hy2 hz8 hba2
          go_wp2_with fail
          rename_i Kc hKc
          go_region_law (first
            | (refine step_append_buf rfl (.tmp 38) (.tmp 45) rfl base (.slice xa xn xc) bs' rfl HUA.out (.slice (some ⟨wr.heap.size, 0, none⟩) 1 1) [z] rfl HR.out (by have := HL.out; rw [List.length_singleton]; omega) hsz ?_; intro v' w5 hbuf hgr hf; obtain ⟨ya, yn, yc, rfl⟩ := RB.form hbuf.rb; have hbk5 := HBK.out.same (hgr.block B HBK.out.lt (fun e => ((HUA.out.lt e.symm).2.2.ne HBK.out (by decide)) rfl)); have c5 := hbk5.cell 0; have f5 := hbk5.frozen 0; simp only [List.getElem?_cons_zero] at c5; have HU5 := Lib.hid hbuf; have HG5 := Lib.hid hgr; have HK5 := Lib.hid hbk5; clear hbuf hgr hf hbk5)
            | (refine step_append_buf rfl (.tmp 38) (.tmp 45) rfl base (.slice xa xn xc) bs' rfl HUA2.out (.slice (some ⟨wr.heap.size, 0, none⟩) 1 1) [z] rfl HR2.out (by have := HL.out; rw [List.length_singleton]; omega) hsz2 ?_; intro v' w5 hbuf hgr hf; obtain ⟨ya, yn, yc, rfl⟩ := RB.form hbuf.rb; have hbk5 := HBK2.out.same (hgr.block B HBK2.out.lt (fun e => ((HUA2.out.lt e.symm).2.2.ne HBK2.out (by decide)) rfl)); have c5 := hbk5.cell 0; have f5 := hbk5.frozen 0; simp only [List.getElem?_cons_zero] at c5; have HU5 := Lib.hid hbuf; have HG5 := Lib.hid hgr; have HK5 := Lib.hid hbk5; clear hbuf hgr hf hbk5)
            | fail)
          all_goals
            refine hKc _ _ ?_
            go_wp2_with fail
            go_roundg 2
            case measure => omega
            case rel =>
              have hO := (Only.setCell (F := (· = B)) (Only.refl _ w5) (p := ⟨B, 0, none⟩) (fun _ => rfl) (.slice ya yn yc))
              exact ⟨rfl, by omega, bs' ++ [z], by show _ = _; rw [List.length_append, HL.out, List.length_singleton]; omega, ⟨_, HK5.out.set 0 _, HU5.out.same fun k hk => hO.block k (HU5.out.lt hk).2.1 ((HU5.out.lt hk).2.2.ne HK5.out (by decide))⟩, (HBr.out.trans (below_grown (HBA.out) HG5.out (fun k hk => (HUA.out.lt hk).1) hsz)).setCell (p := ⟨B, 0, none⟩) hB _⟩
        · have hy2 : True := trivial
          have hwm : IntKind.i64.wrap 24 = 24 := by decide
          obtain ⟨z, hz⟩ : ∃ z : Nat, IntKind.u8.wrap ((u : Int) / 16777216) = (z : Int) := ⟨(IntKind.u8.wrap ((u : Int) / 16777216)).toNat, by rw [IntKind.wrap_u8]; omega⟩
          have hz8 : z < 256 := by rw [IntKind.wrap_u8] at hz; omega
          have HR := Lib.hid (rb_lit wr.drew z hz8)
          have HBA : Hid (Below base wr (wr.drew.alloc (Obj.cells #[.int .u8 (z : Int)] 5))) := ((Below.refl base wr).drew).alloc (by have := HBr.out.size; show base ≤ wr.heap.size; omega) _
          have HUA := Lib.hid (HBU2.out.below (((Below.refl wr.heap.size wr).drew).alloc (Nat.le_refl _) (Obj.cells #[.int .u8 (z : Int)] 5)))
          have HBK := Lib.hid (HB2.out.below (((Below.refl wr.heap.size wr).drew).alloc (Nat.le_refl _) (Obj.cells #[.int .u8 (z : Int)] 5)) HB2.out.lt)
          have hsz : base ≤ (wr.drew.alloc (Obj.cells #[.int .u8 (z : Int)] 5)).heap.size := Nat.le_trans hbs HBA.out.size
          have HR2 : Hid (RB (wr.alloc (Obj.cells #[.int .u8 (z : Int)] 5)).drew (.slice (some ⟨wr.heap.size, 0, none⟩) 1 1) [z]) := (rb_lit wr z hz8).below (Below.refl _ _).drew
          have hba2 : Below wr.heap.size wr (wr.alloc (Obj.cells #[.int .u8 (z : Int)] 5)).drew := ((Below.refl wr.heap.size wr).alloc (Nat.le_refl _) _).drew
          have HUA2 := Lib.hid (HBU2.out.below hba2)
          have HBK2 := Lib.hid (HB2.out.below hba2 HB2.out.lt)
          have hsz2 : base ≤ (wr.alloc (Obj.cells #[.int .u8 (z : Int)] 5)).drew.heap.size := Nat.le_trans hbs hba2.size
          have HBA2 := Lib.hid hba2
          have c0b : (wr.alloc (Obj.cells #[.int .u8 (z : Int)] 5)).drew.cell? ⟨B, 0, none⟩ = some (.slice xa xn xc) := HBK2.out.cell 0
          have c0c : (wr.alloc (Obj.cells #[.int .u8 (z : Int)] 5)).cell? ⟨B, 0, none⟩ = some (.slice xa xn xc) := HBK2.out.cell 0
          clear hy2 hz8 hba2
          go_wp2_with fail
          rename_i Kc hKc
          go_region_law (first
            | (refine step_append_buf rfl (.tmp 38) (.tmp 45) rfl base (.slice xa xn xc) bs' rfl HUA.out (.slice (some ⟨wr.heap.size, 0, none⟩) 1 1) [z] rfl HR.out (by have := HL.out; rw [List.length_singleton]; omega) hsz ?_; intro v' w5 hbuf hgr hf; obtain ⟨ya, yn, yc, rfl⟩ := RB.form hbuf.rb; have hbk5 := HBK.out.same (hgr.block B HBK.out.lt (fun e => ((HUA.out.lt e.symm).2.2.ne HBK.out (by decide)) rfl)); have c5 := hbk5.cell 0; have f5 := hbk5.frozen 0; simp only [List.getElem?_cons_zero] at c5; have HU5 := Lib.hid hbuf; have HG5 := Lib.hid hgr; have HK5 := Lib.hid hbk5; clear hbuf hgr hf hbk5)
            | (refine step_append_buf rfl (.tmp 38) (.tmp 45) rfl base (.slice xa xn xc) bs' rfl HUA2.out (.slice (some ⟨wr.heap.size, 0, none⟩) 1 1) [z] rfl HR2.out (by have := HL.out; rw [List.length_singleton]; omega) hsz2 ?_; intro v' w5 hbuf hgr hf; obtain ⟨ya, yn, yc, rfl⟩ := RB.form hbuf.rb; have hbk5 := HBK2.out.same (hgr.block B HBK2.out.lt (fun e => ((HUA2.out.lt e.symm).2.2.ne HBK2.out (by decide)) rfl)); have c5 := hbk5.cell 0; have f5 := hbk5.frozen 0; simp only [List.getElem?_cons_zero] at c5; have HU5 := Lib.hid hbuf; have HG5 := Lib.hid hgr; have HK5 := Lib.hid hbk5; clear hbuf hgr hf hbk5)
            | fail)
          all_goals
            refine hKc _ _ ?_
            go_wp2_with fail
            go_roundg 3
            case measure => omega
            case rel =>
              have hO := (Only.setCell (F := (· = B)) (Only.refl _ w5) (p := ⟨B, 0, none⟩) (fun _ => rfl) (.slice ya yn yc))
              exact ⟨rfl, by omega, bs' ++ [z], by show _ = _; rw [List.length_append, HL.out, List.length_singleton]; omega, ⟨_, HK5.out.set 0 _, HU5.out.same fun k hk => hO.block k (HU5.out.lt hk).2.1 ((HU5.out.lt hk).2.2.ne HK5.out (by decide))⟩, (HBr.out.trans (below_grown (HBA.out) HG5.out (fun k hk => (HUA.out.lt hk).1) hsz)).setCell (p := ⟨B, 0, none⟩) hB _⟩

end Go.Proofs.Ytilhdelijdkjpaa
