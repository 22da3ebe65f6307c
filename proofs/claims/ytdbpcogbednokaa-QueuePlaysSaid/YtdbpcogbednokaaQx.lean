/-
  Each on a queue, with QueueEach's two function values.
-/
import Derived.Test.YtdbpcogbednokaaSrf
import Derived.Test.YtdbpcogbednokaaTl
namespace Go.Proofs.Ytdbpcogbednokaa
open Go.RowKit Go.Shelf

theorem qat_open {F : Nat → Prop} {bq : Nat} {S : List (Int × Int)} {m : Nat} {w : World} (hQ : QAt F bq S m w) : ∃ (a : Option Addr) (cap : Nat) (L T : List Item), w.cell? ⟨bq, 0, none⟩ = some (.slice a L.length cap) ∧ IRd w.heap.size w a L ∧ L.Perm T ∧ Sorted T ∧ T.map Item.key = S ∧ (L.length : Int) ≤ 100000 := by
  obtain ⟨v, L, last, T, hR, hp, hs, hS, ha, h0, hm, hl⟩ := hQ
  have hlen : (L.length : Int) ≤ 100000 := by rw [len_S hp hS]; omega
  have hc := hR.blk.cell 0
  simp only [List.getElem?_cons_zero] at hc
  obtain ⟨hx, ⟨rfl, h1, h2⟩ | ⟨g, cap, rest, rfl, hg, hB, hn, hcm, hlr⟩⟩ := own_elim hR.own
  · exact ⟨none, 0, L, T, by rw [hc, h1], fun i hi => by omega, hp, hs, hS, hlen⟩
  · refine ⟨_, cap, L, T, hc, fun i hi => ⟨g, rfl, hB.lt, ?_⟩, hp, hs, hS, hlen⟩
    obtain ⟨p0, p1, p2⟩ := flat_get L rest i _ (iget hi)
    exact ⟨(hB.cell _).trans p0, (hB.cell _).trans p1, (hB.cell _).trans p2⟩

/-- Each with the function value that collects all. -/
theorem each1_any {F : Nat → Prop} {bq : Nat} {S : List (Int × Int)} {m : Nat} {w : World} (hQ : QAt F bq S m w) (ba : Nat) (hb : Blk w ba 22 [.slice none 0 0]) :
    Calls Try.prog 13 #[.pointer (some ⟨bq, 0, none⟩), .func (.func 14) #[] #[.pointer (some ⟨ba, 0, none⟩)]] w fun e w' => e = .returned (.tuple #[]) ∧ ∃ v Z, w.heap.size ≤ Z ∧ Blk w' ba 22 [v] ∧ NOwn w' Z v (S.map (·.2)) ∧ Only (fun k => k = ba ∨ w.heap.size ≤ k) w w' := by
  obtain ⟨a, cap, L, T, q0, hR, hp, hs, rfl, hlen⟩ := qat_open hQ
  have hbl := hb.lt
  have hTl : (T.length : Int) ≤ 100000 := by rw [← hp.length_eq]; exact hlen
  refine (qeach_raw bq a cap L T hp hs hlen w q0 hR 14 #[.pointer (some ⟨ba, 0, none⟩)] (enters_of Try.func14 (by kernel_rfl) rfl)
    (fun W0 pre W => ∃ v, Blk W ba 22 [v] ∧ NOwn W W0.heap.size v (pre.map Item.x) ∧ Told ba W0.heap.size W0 W) (fun _ _ _ => False)
    (fun W0 h => ⟨_, hb.below h hbl, World.ownsRow_nil _ _ _ _, Only.refl _ _⟩)
    (fun W0 pre W o ⟨v, h1, h2, h3⟩ h4 => ⟨v, h1.alloc o, h2.alloc o, h3.alloc o⟩)
    (fun W0 pre x W h0 ⟨v, h1, h2, h3⟩ h4 h5 _ => ?_)).mono ?_
  · refine (tell1_any ba W0.heap.size v (pre.map Item.x) x.due x.x W h1 (Nat.lt_of_lt_of_le hbl h0.size) h5 h2 (by rw [List.length_map]; omega)).mono ?_
    rintro e W' ⟨rfl, ⟨v', h6, h7⟩, h8⟩
    refine ⟨.inl ⟨rfl, v', h6, by rw [List.map_append]; exact h7, h3.trans h8⟩, fun k k1 k2 => h8.block k (by omega) (by omega), h8.size⟩
  · rintro e w' ⟨rfl, W0, h0, ⟨v, h1, h2, h3⟩ | ⟨k, _, h⟩⟩
    · refine ⟨rfl, v, W0.heap.size, h0.size, h1, ?_, ?_⟩
      · rw [List.map_map]; exact h2
      · exact (Only.below h0).trans' h3 fun k hk hlt => by
          rcases hk with hk | hk
          · exact .inl hk
          · have := h0.size; omega
    · exact h.elim

/-- Between two things told to QueueEach's second function value. -/
def Core2 (bn bb bs : Nat) (stop : Int) (W0 : World) (pre : List Item) (W : World) : Prop :=
  ∃ v, Blk W bb 22 [v] ∧ NOwn W W0.heap.size v (pre.map Item.x) ∧ Blk W bn 3 [.int .i64 (pre.length : Int)] ∧ Blk W bs 3 [.int .i64 stop] ∧ Only (fun k => k = bn ∨ k = bb ∨ W0.heap.size ≤ k) W0 W
/-- Each with the function value that stops. -/
theorem each2_any {F : Nat → Prop} {bq : Nat} {S : List (Int × Int)} {m : Nat} {w : World} (hQ : QAt F bq S m w) (bn bb bs : Nat) (stop : Int) (hn : Blk w bn 3 [.int .i64 0]) (hb : Blk w bb 22 [.slice none 0 0]) (hs : Blk w bs 3 [.int .i64 stop]) (d1 : bn ≠ bb) (d2 : bs ≠ bb) (d3 : bs ≠ bn) :
    Calls Try.prog 13 #[.pointer (some ⟨bq, 0, none⟩), .func (.func 15) #[] #[.pointer (some ⟨bn, 0, none⟩), .pointer (some ⟨bb, 0, none⟩), .pointer (some ⟨bs, 0, none⟩)]] w fun e w' => e = .returned (.tuple #[]) ∧ ∃ v Z k, w.heap.size ≤ Z ∧ k ≤ S.length ∧ (k : Int) = min (max stop 1) (S.length : Int) ∧ Blk w' bb 22 [v] ∧ NOwn w' Z v ((S.take k).map (·.2)) ∧ Blk w' bn 3 [.int .i64 (k : Int)] ∧ Blk w' bs 3 [.int .i64 stop] ∧ Only (fun k => k = bn ∨ k = bb ∨ w.heap.size ≤ k) w w' := by
  obtain ⟨a, cap, L, T, q0, hR, hp, hso, rfl, hlen⟩ := qat_open hQ
  have l1 := hn.lt
  have l2 := hb.lt
  have l3 := hs.lt
  have hTl : (T.length : Int) ≤ 100000 := by rw [← hp.length_eq]; exact hlen
  refine (qeach_raw bq a cap L T hp hso hlen w q0 hR 15 #[.pointer (some ⟨bn, 0, none⟩), .pointer (some ⟨bb, 0, none⟩), .pointer (some ⟨bs, 0, none⟩)] (enters_of Try.func15 (by kernel_rfl) rfl)
    (fun W0 pre W => Core2 bn bb bs stop W0 pre W ∧ (pre.length = 0 ∨ (pre.length : Int) < stop)) (fun W0 pre W => Core2 bn bb bs stop W0 pre W ∧ 1 ≤ pre.length ∧ stop ≤ (pre.length : Int) ∧ (pre.length = 1 ∨ (pre.length : Int) - 1 < stop))
    (fun W0 h => ⟨⟨_, hb.below h l2, World.ownsRow_nil _ _ _ _, hn.below h l1, hs.below h l3, Only.refl _ _⟩, .inl rfl⟩)
    (fun W0 pre W o ⟨⟨v, h1, h2, h3, h4, h5⟩, h6⟩ h7 => ⟨⟨v, h1.alloc o, h2.alloc o, h3.alloc o, h4.alloc o, h5.alloc o⟩, h6⟩)
    (fun W0 pre x W h0 ⟨⟨v, h1, h2, h3, h4, h5⟩, h6⟩ h7 h8 _ => ?_)).mono ?_
  · have hz := h0.size
    refine (tell2_any bn bb bs W0.heap.size (pre.length : Int) stop v (pre.map Item.x) x.due x.x W h3 h4 h1 (by omega) (by omega) (by omega) d1 d2 d3 h8 h2 (by rw [List.length_map]; omega) (by rw [List.length_map])).mono ?_
    rw [List.length_map]
    rintro e W' ⟨rfl, ⟨v', k1, k2⟩, k3, k4, k5⟩
    have hcore : Core2 bn bb bs stop W0 (pre ++ [x]) W' := ⟨v', k1, by rw [List.map_append]; exact k2, by rw [List.length_append]; exact k3, k4, h5.trans k5⟩
    refine ⟨?_, fun k j1 j2 => k5.block k (by omega) (by omega), k5.size⟩
    have hl : (pre ++ [x]).length = pre.length + 1 := by simp
    by_cases hlt : ((pre.length + 1 : Nat) : Int) < stop
    · exact .inl ⟨by rw [decide_eq_true hlt], hcore, .inr (by rw [hl]; exact hlt)⟩
    · exact .inr ⟨by rw [decide_eq_false hlt], hcore, by omega, by rw [hl]; omega, by
        rw [hl]
        rcases h6 with h6 | h6
        · exact .inl (by omega)
        · exact .inr (by omega)⟩
  · have key : ∀ W0 pre w' k, Below w.heap.size w W0 → pre = T.take k → k ≤ T.length → Core2 bn bb bs stop W0 pre w' → (k : Int) = min (max stop 1) (T.length : Int) → ∃ v Z k, w.heap.size ≤ Z ∧ k ≤ (T.map Item.key).length ∧ (k : Int) = min (max stop 1) ((T.map Item.key).length : Int) ∧ Blk w' bb 22 [v] ∧ NOwn w' Z v (((T.map Item.key).take k).map (·.2)) ∧ Blk w' bn 3 [.int .i64 (k : Int)] ∧ Blk w' bs 3 [.int .i64 stop] ∧ Only (fun k => k = bn ∨ k = bb ∨ w.heap.size ≤ k) w w' := by
      rintro W0 pre w' k h0 rfl hk ⟨v, h1, h2, h3, h4, h5⟩ hmin
      rw [List.length_take, Nat.min_eq_left hk] at h3
      refine ⟨v, W0.heap.size, k, h0.size, by rw [List.length_map]; exact hk, by rw [List.length_map]; exact hmin, h1, ?_, h3, h4, ?_⟩
      · rw [← List.map_take, List.map_map]; exact h2
      · exact (Only.below h0).trans' h5 fun k hk hlt => by
          have := h0.size
          rcases hk with hk | hk | hk
          · exact .inl hk
          · exact .inr (.inl hk)
          · omega
    rintro e w' ⟨rfl, W0, h0, ⟨hc, h6⟩ | ⟨k, hk, hc, h6, h7, h8⟩⟩
    · exact ⟨rfl, key W0 T w' T.length h0 (List.take_length).symm (Nat.le_refl _) hc (by omega)⟩
    · rw [List.length_take, Nat.min_eq_left hk] at h6 h7 h8
      exact ⟨rfl, key W0 _ w' k h0 rfl hk hc (by omega)⟩
end Go.Proofs.Ytdbpcogbednokaa
