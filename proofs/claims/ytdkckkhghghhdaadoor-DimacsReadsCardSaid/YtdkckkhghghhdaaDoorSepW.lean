/-
  Words that are copied; fewer chunks.
-/
import Derived.Test.YtdkckkhghghhdaaDoorWd1
import Derived.Test.YtdkckkhghghhdaaDoorWdT
namespace Go.Proofs.YtdkckkhghghhdaaDoor
open Go.RowKit

/-- fewer chunks -/
theorem Sep0.init {h0 h : AHeap} {L : List Chunk} {c : Chunk} (hs : Sep0 h0 h (L ++ [c])) : Sep0 h0 h L :=
  ⟨⟨fun d hd => hs.sep.all d (List.mem_append_left _ hd), hs.sep.far.sublist (List.sublist_append_left ..)⟩, hs.ext, fun d hd => hs.fresh d (List.mem_append_left _ hd)⟩
/-- a word that is copied -/
theorem copyW {h0 h : AHeap} {L : List Chunk} (hs : Sep0 h0 h L) (w : Wd) : ∃ h3, AHeap.storeAt (AHeap.push h 1 [(.str (⟨#[]⟩ : ByteArray)), (.int .i64 (0 : Int)), (.bool false)]) (wdC w) (Pt.mk ⟨AHeap.next h, 0, 0⟩ 3) = some h3 ∧ Sep0 h0 h3 L ∧
    h3.cell (.mk ⟨AHeap.next h, 0, 0 + 0⟩ 3) = some (.str (tx w.text)) ∧ h3.cell (.mk ⟨AHeap.next h, 0, 0 + 1⟩ 3) = some (.int .i64 (w.pos : Int)) ∧ h3.cell (.mk ⟨AHeap.next h, 0, 0 + 2⟩ 3) = some (.bool w.first) := by
  have s1 := hs.push 1 3 (cs := [(.str (⟨#[]⟩ : ByteArray)), (.int .i64 (0 : Int)), (.bool false)]) rfl
  have hi : (L ++ [Chunk.own 1 h.next 0 3 [(.str (⟨#[]⟩ : ByteArray)), (.int .i64 (0 : Int)), (.bool false)]])[L.length]? = some (Chunk.own 1 h.next 0 3 [(.str (⟨#[]⟩ : ByteArray)), (.int .i64 (0 : Int)), (.bool false)]) := by simp
  obtain ⟨h3, e1, s2⟩ := s1.put (o := 0) (l := 3) (vs := wdC w) hi (by simp [wdC]) (by simp [wdC])
  have hset : (L ++ [Chunk.own 1 h.next 0 3 [(.str (⟨#[]⟩ : ByteArray)), (.int .i64 (0 : Int)), (.bool false)]]).set L.length (Chunk.own 1 h.next 0 3 (wdC w)) = L ++ [Chunk.own 1 h.next 0 3 (wdC w)] := by simp
  have s3 : Sep0 h0 h3 (L ++ [Chunk.own 1 h.next 0 3 (wdC w)]) := by rw [← hset]; exact s2
  have hj : (L ++ [Chunk.own 1 h.next 0 3 (wdC w)])[L.length]? = some (Chunk.own 1 h.next 0 3 (wdC w)) := by simp
  exact ⟨h3, e1, s3.init, s3.part hj (by omega) rfl, s3.part hj (by omega) rfl, s3.part hj (by omega) rfl⟩

theorem Sep0.junk {h0 h : AHeap} {L : List Chunk} (hs : Sep0 h0 h L) {cs : List AVal} : Sep0 h0 (h.push 1 cs) L := (hs.push 1 cs.length (cs := cs) (by simp)).init
theorem intsC_app (a b : List Int) : intsC (a ++ b) = intsC a ++ intsC b := List.map_append
end Go.Proofs.YtdkckkhghghhdaaDoor
