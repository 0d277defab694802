/- law24.sane: what it computes on the model. No walk. -/
import Derived.Test.YtmdfpknhfkgfoaaDoorPRecv3
namespace Go.Proofs.YtmdfpknhfkgfoaaDoor
open Go.RowKit Go.Shelf

def sn1 : PE := ⟨100, 1, ⟨#[]⟩, 0, 0, 0, true⟩
def sn2 (d : ByteArray) (t : Int) (ok : Bool) : PE := ⟨100, 2, d, t, 40, 0, ok⟩
def snA : ByteArray := ⟨#[49, 50, 51, 52, 53, 54, 55, 56]⟩
def snB : ByteArray := ⟨#[97, 98, 99, 100, 101, 102, 103, 104]⟩
def snS1 : PS := ⟨[sn1, sn2 ⟨#[]⟩ 0 false], (100, 1), none⟩
def snS2 : PS := ⟨[sn1, sn2 snA 5 false], (100, 1), none⟩
def snS3 : PS := ⟨[sn1, sn2 snA 5 false], (100, 2), some (100, 1)⟩
def snS5 : PS := ⟨[sn1, sn2 snB 7 false], (100, 1), none⟩
def snS6 : PS := ⟨[sn1, sn2 ⟨#[]⟩ 0 true], (100, 1), none⟩

theorem sn_recv : (PS1 100 1 true).received 5 100 2 40 = (0, snS1) := by rfl
theorem sn_alw1 : snS1.allows (100, 2) 120 = true := by rfl
theorem sn_alw2 : snS1.allows (100, 2) 121 = false := by rfl
theorem sn_chal : snS1.challenge 5 (100, 2) snA = (0, snS2) := by rfl
theorem sn_migr : snS2.migrate (100, 2) = (0, snS3) := by rfl
theorem sn_resp : snS3.respond (100, 2) ⟨#[49, 50, 51, 52, 53, 54, 55, 57]⟩ = (false, snS3) := by rfl
theorem sn_tick1 : snS3.tick 205 = (false, snS3) := by rfl
theorem sn_tick2 : snS3.tick 206 = (true, snS1) := by rfl
theorem sn_migr2 : snS1.migrate (100, 3) = (240, snS1) := by rfl
theorem sn_sent : snS1.sent (100, 2) 121 = (240, snS1) := by rfl
theorem sn_chal2 : snS1.challenge 7 (100, 2) snB = (0, snS5) := by rfl
theorem sn_resp2 : snS5.respond (100, 2) snB = (true, snS6) := by rfl
theorem sn_val1 : snS6.valid (100, 2) = true := by rfl
theorem sn_val2 : snS6.valid (100, 1) = true := by rfl
theorem sn_len : snS6.es.length = 2 := by rfl
end Go.Proofs.YtmdfpknhfkgfoaaDoor
