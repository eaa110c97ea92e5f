/-
  Texts of the proof of Chain, one behind the other: TagM, TagN.
-/
import Derived.Test.YtlgaeeedkihfpaaGreatDoorC16
import Derived.Laws.ResultCell
import Derived.Laws.Rows
/-
  tok.reader's tag: its state in memory.
-/
namespace Go.Proofs.YtlgaeeedkihfpaaGreatDoor.Uf
open Go.RowKit
open Tz (B Atr Tok tagG tagL blankB attrC valC nameC addA resolveL)

def zero55 : Array Value := #[.int .i64 0, .string ⟨#[]⟩, .slice none 0 0, .bool false, .string ⟨#[]⟩]
/-- The frame of tag, wherever it jumps. -/
def TagF (r R2 T4 M5 A6 : Nat) (t : Array Value) : Prop :=
  t.size = 159 ∧ t.getD 0 undef = .pointer (some ⟨r, 0, none⟩) ∧ t.getD 1 undef = undef ∧ t.getD 2 undef = .pointer (some ⟨R2, 0, none⟩) ∧ t.getD 3 undef = .bool false ∧
  t.getD 4 undef = .pointer (some ⟨T4, 0, none⟩) ∧ t.getD 5 undef = .map (some M5) ∧ t.getD 6 undef = .pointer (some ⟨A6, 0, none⟩)
theorem cons_of {x : List Value} {n : Nat} (h : x.length = n + 1) : ∃ u y, x = u :: y ∧ y.length = n := by
  cases x with
  | nil => simp at h
  | cons u y => exact ⟨u, y, rfl, by simpa using h⟩
set_option maxRecDepth 100000 in
set_option maxHeartbeats 4000000 in
theorem lit159 {t : Array Value} (h : t.size = 159) : t = #[t.getD 0 undef, t.getD 1 undef, t.getD 2 undef, t.getD 3 undef, t.getD 4 undef, t.getD 5 undef, t.getD 6 undef, t.getD 7 undef, t.getD 8 undef, t.getD 9 undef, t.getD 10 undef, t.getD 11 undef, t.getD 12 undef, t.getD 13 undef, t.getD 14 undef, t.getD 15 undef, t.getD 16 undef, t.getD 17 undef, t.getD 18 undef, t.getD 19 undef, t.getD 20 undef, t.getD 21 undef, t.getD 22 undef, t.getD 23 undef, t.getD 24 undef, t.getD 25 undef, t.getD 26 undef, t.getD 27 undef, t.getD 28 undef, t.getD 29 undef, t.getD 30 undef, t.getD 31 undef, t.getD 32 undef, t.getD 33 undef, t.getD 34 undef, t.getD 35 undef, t.getD 36 undef, t.getD 37 undef, t.getD 38 undef, t.getD 39 undef, t.getD 40 undef, t.getD 41 undef, t.getD 42 undef, t.getD 43 undef, t.getD 44 undef, t.getD 45 undef, t.getD 46 undef, t.getD 47 undef, t.getD 48 undef, t.getD 49 undef, t.getD 50 undef, t.getD 51 undef, t.getD 52 undef, t.getD 53 undef, t.getD 54 undef, t.getD 55 undef, t.getD 56 undef, t.getD 57 undef, t.getD 58 undef, t.getD 59 undef, t.getD 60 undef, t.getD 61 undef, t.getD 62 undef, t.getD 63 undef, t.getD 64 undef, t.getD 65 undef, t.getD 66 undef, t.getD 67 undef, t.getD 68 undef, t.getD 69 undef, t.getD 70 undef, t.getD 71 undef, t.getD 72 undef, t.getD 73 undef, t.getD 74 undef, t.getD 75 undef, t.getD 76 undef, t.getD 77 undef, t.getD 78 undef, t.getD 79 undef, t.getD 80 undef, t.getD 81 undef, t.getD 82 undef, t.getD 83 undef, t.getD 84 undef, t.getD 85 undef, t.getD 86 undef, t.getD 87 undef, t.getD 88 undef, t.getD 89 undef, t.getD 90 undef, t.getD 91 undef, t.getD 92 undef, t.getD 93 undef, t.getD 94 undef, t.getD 95 undef, t.getD 96 undef, t.getD 97 undef, t.getD 98 undef, t.getD 99 undef, t.getD 100 undef, t.getD 101 undef, t.getD 102 undef, t.getD 103 undef, t.getD 104 undef, t.getD 105 undef, t.getD 106 undef, t.getD 107 undef, t.getD 108 undef, t.getD 109 undef, t.getD 110 undef, t.getD 111 undef, t.getD 112 undef, t.getD 113 undef, t.getD 114 undef, t.getD 115 undef, t.getD 116 undef, t.getD 117 undef, t.getD 118 undef, t.getD 119 undef, t.getD 120 undef, t.getD 121 undef, t.getD 122 undef, t.getD 123 undef, t.getD 124 undef, t.getD 125 undef, t.getD 126 undef, t.getD 127 undef, t.getD 128 undef, t.getD 129 undef, t.getD 130 undef, t.getD 131 undef, t.getD 132 undef, t.getD 133 undef, t.getD 134 undef, t.getD 135 undef, t.getD 136 undef, t.getD 137 undef, t.getD 138 undef, t.getD 139 undef, t.getD 140 undef, t.getD 141 undef, t.getD 142 undef, t.getD 143 undef, t.getD 144 undef, t.getD 145 undef, t.getD 146 undef, t.getD 147 undef, t.getD 148 undef, t.getD 149 undef, t.getD 150 undef, t.getD 151 undef, t.getD 152 undef, t.getD 153 undef, t.getD 154 undef, t.getD 155 undef, t.getD 156 undef, t.getD 157 undef, t.getD 158 undef] := by
  obtain ⟨x0⟩ := t
  have h0 : x0.length = 159 := h
  clear h
  obtain ⟨u0, x1, rfl, h1⟩ := cons_of h0
  obtain ⟨u1, x2, rfl, h2⟩ := cons_of h1
  obtain ⟨u2, x3, rfl, h3⟩ := cons_of h2
  obtain ⟨u3, x4, rfl, h4⟩ := cons_of h3
  obtain ⟨u4, x5, rfl, h5⟩ := cons_of h4
  obtain ⟨u5, x6, rfl, h6⟩ := cons_of h5
  obtain ⟨u6, x7, rfl, h7⟩ := cons_of h6
  obtain ⟨u7, x8, rfl, h8⟩ := cons_of h7
  obtain ⟨u8, x9, rfl, h9⟩ := cons_of h8
  obtain ⟨u9, x10, rfl, h10⟩ := cons_of h9
  obtain ⟨u10, x11, rfl, h11⟩ := cons_of h10
  obtain ⟨u11, x12, rfl, h12⟩ := cons_of h11
  obtain ⟨u12, x13, rfl, h13⟩ := cons_of h12
  obtain ⟨u13, x14, rfl, h14⟩ := cons_of h13
  obtain ⟨u14, x15, rfl, h15⟩ := cons_of h14
  obtain ⟨u15, x16, rfl, h16⟩ := cons_of h15
  obtain ⟨u16, x17, rfl, h17⟩ := cons_of h16
  obtain ⟨u17, x18, rfl, h18⟩ := cons_of h17
  obtain ⟨u18, x19, rfl, h19⟩ := cons_of h18
  obtain ⟨u19, x20, rfl, h20⟩ := cons_of h19
  obtain ⟨u20, x21, rfl, h21⟩ := cons_of h20
  obtain ⟨u21, x22, rfl, h22⟩ := cons_of h21
  obtain ⟨u22, x23, rfl, h23⟩ := cons_of h22
  obtain ⟨u23, x24, rfl, h24⟩ := cons_of h23
  obtain ⟨u24, x25, rfl, h25⟩ := cons_of h24
  obtain ⟨u25, x26, rfl, h26⟩ := cons_of h25
  obtain ⟨u26, x27, rfl, h27⟩ := cons_of h26
  obtain ⟨u27, x28, rfl, h28⟩ := cons_of h27
  obtain ⟨u28, x29, rfl, h29⟩ := cons_of h28
  obtain ⟨u29, x30, rfl, h30⟩ := cons_of h29
  obtain ⟨u30, x31, rfl, h31⟩ := cons_of h30
  obtain ⟨u31, x32, rfl, h32⟩ := cons_of h31
  obtain ⟨u32, x33, rfl, h33⟩ := cons_of h32
  obtain ⟨u33, x34, rfl, h34⟩ := cons_of h33
  obtain ⟨u34, x35, rfl, h35⟩ := cons_of h34
  obtain ⟨u35, x36, rfl, h36⟩ := cons_of h35
  obtain ⟨u36, x37, rfl, h37⟩ := cons_of h36
  obtain ⟨u37, x38, rfl, h38⟩ := cons_of h37
  obtain ⟨u38, x39, rfl, h39⟩ := cons_of h38
  obtain ⟨u39, x40, rfl, h40⟩ := cons_of h39
  obtain ⟨u40, x41, rfl, h41⟩ := cons_of h40
  obtain ⟨u41, x42, rfl, h42⟩ := cons_of h41
  obtain ⟨u42, x43, rfl, h43⟩ := cons_of h42
  obtain ⟨u43, x44, rfl, h44⟩ := cons_of h43
  obtain ⟨u44, x45, rfl, h45⟩ := cons_of h44
  obtain ⟨u45, x46, rfl, h46⟩ := cons_of h45
  obtain ⟨u46, x47, rfl, h47⟩ := cons_of h46
  obtain ⟨u47, x48, rfl, h48⟩ := cons_of h47
  obtain ⟨u48, x49, rfl, h49⟩ := cons_of h48
  obtain ⟨u49, x50, rfl, h50⟩ := cons_of h49
  obtain ⟨u50, x51, rfl, h51⟩ := cons_of h50
  obtain ⟨u51, x52, rfl, h52⟩ := cons_of h51
  obtain ⟨u52, x53, rfl, h53⟩ := cons_of h52
  obtain ⟨u53, x54, rfl, h54⟩ := cons_of h53
  obtain ⟨u54, x55, rfl, h55⟩ := cons_of h54
  obtain ⟨u55, x56, rfl, h56⟩ := cons_of h55
  obtain ⟨u56, x57, rfl, h57⟩ := cons_of h56
  obtain ⟨u57, x58, rfl, h58⟩ := cons_of h57
  obtain ⟨u58, x59, rfl, h59⟩ := cons_of h58
  obtain ⟨u59, x60, rfl, h60⟩ := cons_of h59
  obtain ⟨u60, x61, rfl, h61⟩ := cons_of h60
  obtain ⟨u61, x62, rfl, h62⟩ := cons_of h61
  obtain ⟨u62, x63, rfl, h63⟩ := cons_of h62
  obtain ⟨u63, x64, rfl, h64⟩ := cons_of h63
  obtain ⟨u64, x65, rfl, h65⟩ := cons_of h64
  obtain ⟨u65, x66, rfl, h66⟩ := cons_of h65
  obtain ⟨u66, x67, rfl, h67⟩ := cons_of h66
  obtain ⟨u67, x68, rfl, h68⟩ := cons_of h67
  obtain ⟨u68, x69, rfl, h69⟩ := cons_of h68
  obtain ⟨u69, x70, rfl, h70⟩ := cons_of h69
  obtain ⟨u70, x71, rfl, h71⟩ := cons_of h70
  obtain ⟨u71, x72, rfl, h72⟩ := cons_of h71
  obtain ⟨u72, x73, rfl, h73⟩ := cons_of h72
  obtain ⟨u73, x74, rfl, h74⟩ := cons_of h73
  obtain ⟨u74, x75, rfl, h75⟩ := cons_of h74
  obtain ⟨u75, x76, rfl, h76⟩ := cons_of h75
  obtain ⟨u76, x77, rfl, h77⟩ := cons_of h76
  obtain ⟨u77, x78, rfl, h78⟩ := cons_of h77
  obtain ⟨u78, x79, rfl, h79⟩ := cons_of h78
  obtain ⟨u79, x80, rfl, h80⟩ := cons_of h79
  obtain ⟨u80, x81, rfl, h81⟩ := cons_of h80
  obtain ⟨u81, x82, rfl, h82⟩ := cons_of h81
  obtain ⟨u82, x83, rfl, h83⟩ := cons_of h82
  obtain ⟨u83, x84, rfl, h84⟩ := cons_of h83
  obtain ⟨u84, x85, rfl, h85⟩ := cons_of h84
  obtain ⟨u85, x86, rfl, h86⟩ := cons_of h85
  obtain ⟨u86, x87, rfl, h87⟩ := cons_of h86
  obtain ⟨u87, x88, rfl, h88⟩ := cons_of h87
  obtain ⟨u88, x89, rfl, h89⟩ := cons_of h88
  obtain ⟨u89, x90, rfl, h90⟩ := cons_of h89
  obtain ⟨u90, x91, rfl, h91⟩ := cons_of h90
  obtain ⟨u91, x92, rfl, h92⟩ := cons_of h91
  obtain ⟨u92, x93, rfl, h93⟩ := cons_of h92
  obtain ⟨u93, x94, rfl, h94⟩ := cons_of h93
  obtain ⟨u94, x95, rfl, h95⟩ := cons_of h94
  obtain ⟨u95, x96, rfl, h96⟩ := cons_of h95
  obtain ⟨u96, x97, rfl, h97⟩ := cons_of h96
  obtain ⟨u97, x98, rfl, h98⟩ := cons_of h97
  obtain ⟨u98, x99, rfl, h99⟩ := cons_of h98
  obtain ⟨u99, x100, rfl, h100⟩ := cons_of h99
  obtain ⟨u100, x101, rfl, h101⟩ := cons_of h100
  obtain ⟨u101, x102, rfl, h102⟩ := cons_of h101
  obtain ⟨u102, x103, rfl, h103⟩ := cons_of h102
  obtain ⟨u103, x104, rfl, h104⟩ := cons_of h103
  obtain ⟨u104, x105, rfl, h105⟩ := cons_of h104
  obtain ⟨u105, x106, rfl, h106⟩ := cons_of h105
  obtain ⟨u106, x107, rfl, h107⟩ := cons_of h106
  obtain ⟨u107, x108, rfl, h108⟩ := cons_of h107
  obtain ⟨u108, x109, rfl, h109⟩ := cons_of h108
  obtain ⟨u109, x110, rfl, h110⟩ := cons_of h109
  obtain ⟨u110, x111, rfl, h111⟩ := cons_of h110
  obtain ⟨u111, x112, rfl, h112⟩ := cons_of h111
  obtain ⟨u112, x113, rfl, h113⟩ := cons_of h112
  obtain ⟨u113, x114, rfl, h114⟩ := cons_of h113
  obtain ⟨u114, x115, rfl, h115⟩ := cons_of h114
  obtain ⟨u115, x116, rfl, h116⟩ := cons_of h115
  obtain ⟨u116, x117, rfl, h117⟩ := cons_of h116
  obtain ⟨u117, x118, rfl, h118⟩ := cons_of h117
  obtain ⟨u118, x119, rfl, h119⟩ := cons_of h118
  obtain ⟨u119, x120, rfl, h120⟩ := cons_of h119
  obtain ⟨u120, x121, rfl, h121⟩ := cons_of h120
  obtain ⟨u121, x122, rfl, h122⟩ := cons_of h121
  obtain ⟨u122, x123, rfl, h123⟩ := cons_of h122
  obtain ⟨u123, x124, rfl, h124⟩ := cons_of h123
  obtain ⟨u124, x125, rfl, h125⟩ := cons_of h124
  obtain ⟨u125, x126, rfl, h126⟩ := cons_of h125
  obtain ⟨u126, x127, rfl, h127⟩ := cons_of h126
  obtain ⟨u127, x128, rfl, h128⟩ := cons_of h127
  obtain ⟨u128, x129, rfl, h129⟩ := cons_of h128
  obtain ⟨u129, x130, rfl, h130⟩ := cons_of h129
  obtain ⟨u130, x131, rfl, h131⟩ := cons_of h130
  obtain ⟨u131, x132, rfl, h132⟩ := cons_of h131
  obtain ⟨u132, x133, rfl, h133⟩ := cons_of h132
  obtain ⟨u133, x134, rfl, h134⟩ := cons_of h133
  obtain ⟨u134, x135, rfl, h135⟩ := cons_of h134
  obtain ⟨u135, x136, rfl, h136⟩ := cons_of h135
  obtain ⟨u136, x137, rfl, h137⟩ := cons_of h136
  obtain ⟨u137, x138, rfl, h138⟩ := cons_of h137
  obtain ⟨u138, x139, rfl, h139⟩ := cons_of h138
  obtain ⟨u139, x140, rfl, h140⟩ := cons_of h139
  obtain ⟨u140, x141, rfl, h141⟩ := cons_of h140
  obtain ⟨u141, x142, rfl, h142⟩ := cons_of h141
  obtain ⟨u142, x143, rfl, h143⟩ := cons_of h142
  obtain ⟨u143, x144, rfl, h144⟩ := cons_of h143
  obtain ⟨u144, x145, rfl, h145⟩ := cons_of h144
  obtain ⟨u145, x146, rfl, h146⟩ := cons_of h145
  obtain ⟨u146, x147, rfl, h147⟩ := cons_of h146
  obtain ⟨u147, x148, rfl, h148⟩ := cons_of h147
  obtain ⟨u148, x149, rfl, h149⟩ := cons_of h148
  obtain ⟨u149, x150, rfl, h150⟩ := cons_of h149
  obtain ⟨u150, x151, rfl, h151⟩ := cons_of h150
  obtain ⟨u151, x152, rfl, h152⟩ := cons_of h151
  obtain ⟨u152, x153, rfl, h153⟩ := cons_of h152
  obtain ⟨u153, x154, rfl, h154⟩ := cons_of h153
  obtain ⟨u154, x155, rfl, h155⟩ := cons_of h154
  obtain ⟨u155, x156, rfl, h156⟩ := cons_of h155
  obtain ⟨u156, x157, rfl, h157⟩ := cons_of h156
  obtain ⟨u157, x158, rfl, h158⟩ := cons_of h157
  obtain ⟨u158, x159, rfl, h159⟩ := cons_of h158
  obtain rfl := List.eq_nil_of_length_eq_zero h159
  rfl
theorem litf {t : Array Value} (h : t.size = 159) : ∃ f : Nat → Value, (∀ i, f i = t.getD i undef) ∧ t = #[f 0, f 1, f 2, f 3, f 4, f 5, f 6, f 7, f 8, f 9, f 10, f 11, f 12, f 13, f 14, f 15, f 16, f 17, f 18, f 19, f 20, f 21, f 22, f 23, f 24, f 25, f 26, f 27, f 28, f 29, f 30, f 31, f 32, f 33, f 34, f 35, f 36, f 37, f 38, f 39, f 40, f 41, f 42, f 43, f 44, f 45, f 46, f 47, f 48, f 49, f 50, f 51, f 52, f 53, f 54, f 55, f 56, f 57, f 58, f 59, f 60, f 61, f 62, f 63, f 64, f 65, f 66, f 67, f 68, f 69, f 70, f 71, f 72, f 73, f 74, f 75, f 76, f 77, f 78, f 79, f 80, f 81, f 82, f 83, f 84, f 85, f 86, f 87, f 88, f 89, f 90, f 91, f 92, f 93, f 94, f 95, f 96, f 97, f 98, f 99, f 100, f 101, f 102, f 103, f 104, f 105, f 106, f 107, f 108, f 109, f 110, f 111, f 112, f 113, f 114, f 115, f 116, f 117, f 118, f 119, f 120, f 121, f 122, f 123, f 124, f 125, f 126, f 127, f 128, f 129, f 130, f 131, f 132, f 133, f 134, f 135, f 136, f 137, f 138, f 139, f 140, f 141, f 142, f 143, f 144, f 145, f 146, f 147, f 148, f 149, f 150, f 151, f 152, f 153, f 154, f 155, f 156, f 157, f 158] := ⟨fun i => t.getD i undef, fun _ => rfl, lit159 h⟩
structure TagS (w : World) (r : Nat) (s : B) (k : Nat) (v : Value) (R2 T4 M5 A6 : Nat) (nm : B) (cl : Bool) (l : List Atr) (va : Value) (an av : B) (w' : World) : Prop where
  rd : Rdr w' r s k v
  on : Only (fun b => b = r) w w'
  res : Blk w' R2 55 zero55
  tok : Blk w' T4 55 #[.int .i64 2, .string (bs nm), va, .bool cl, .string ⟨#[]⟩]
  own : w'.ownsRow w.heap.size 57 2 va l.length (atrCells l)
  ovn : va.ownBlock ≠ some A6
  seen : Seen w' M5 l.length (l.map (·.name))
  cur : Blk w' A6 57 #[.string (bs an), .string (bs av)]
  ge : w.heap.size ≤ R2 ∧ w.heap.size ≤ T4 ∧ w.heap.size ≤ M5 ∧ w.heap.size ≤ A6
  ne : R2 ≠ T4
  len : l.length ≤ k
  names : ∀ a ∈ l, a.name.length ≤ 1600000000
theorem seen_ne {w : World} {b n g : Nat} {l : List B} {t : TypeId} {cs : Array Value} (h : Seen w b n l) (hg : Blk w g t cs) : b ≠ g := by
  rintro rfl
  obtain ⟨D, ⟨es, clock, h1, _⟩, _⟩ := h
  have h2 : w.heap[b]? = some (.cells cs t (0, 0)) := hg
  rw [h1] at h2
  cases h2
variable {w w1 w2 : World} {r k R2 T4 M5 A6 : Nat} {s nm an av : B} {v va : Value} {cl : Bool} {l : List Atr}
/-- Calls that move the reader alone. -/
theorem TagS.pass (h : TagS w r s k v R2 T4 M5 A6 nm cl l va an av w1) {k' : Nat} (ho : Only (fun b => b = r) w1 w2) (hr : Rdr w2 r s k' v) (hk : k ≤ k') : TagS w r s k' v R2 T4 M5 A6 nm cl l va an av w2 where
  rd := hr
  on := h.on.trans ho
  res := h.res.only ho (Blk.ne_ h.res h.rd (by decide))
  tok := h.tok.only ho (Blk.ne_ h.tok h.rd (by decide))
  own := own_only h.own ho (fun k hk e => own_blk_ne h.own h.rd (by decide) (e ▸ hk))
  ovn := h.ovn
  seen := seen_kept h.seen (ho.block M5 (seen_lt h.seen) (seen_ne h.seen h.rd))
  cur := h.cur.only ho (Blk.ne_ h.cur h.rd (by decide))
  ge := h.ge
  ne := h.ne
  len := Nat.le_trans h.len hk
  names := h.names
theorem TagS.below (h : TagS w r s k v R2 T4 M5 A6 nm cl l va an av w1) (hb : Below w1.heap.size w1 w2) : TagS w r s k v R2 T4 M5 A6 nm cl l va an av w2 :=
  h.pass (only_below (Only.refl _ w1) hb) (Blk.below h.rd hb (heap_lt h.rd)) (Nat.le_refl _)
theorem TagS.drewN (h : TagS w r s k v R2 T4 M5 A6 nm cl l va an av w1) (n : Nat) : TagS w r s k v R2 T4 M5 A6 nm cl l va an av (w1.drewN n) :=
  h.pass ((Only.refl _ w1).drewN n) h.rd (Nat.le_refl _)
/-- The reader's place is written. -/
theorem TagS.go (h : TagS w r s k v R2 T4 M5 A6 nm cl l va an av w1) (k' : Nat) (hk : k ≤ k') : TagS w r s k' v R2 T4 M5 A6 nm cl l va an av (w1.setCell ⟨r, 1, none⟩ (.int .i64 (k' : Nat))) :=
  h.pass (only_set (Only.refl _ w1) _ _) (Rdr.go h.rd k') hk
theorem seen_set {b n : Nat} {x : List B} {p : Addr} (h : Seen w1 b n x) (hp : b ≠ p.block) (u : Value) : Seen (w1.setCell p u) b n x := seen_kept h (Below.heap_setCell w1 p u b hp)
/-- A cell of the attribute is written. -/
theorem TagS.cur_ (h : TagS w r s k v R2 T4 M5 A6 nm cl l va an av w1) (i : Nat) (u : Value) {an' av' : B} (hu : (#[Value.string (bs an), Value.string (bs av)] : Array Value).setIfInBounds i u = #[.string (bs an'), .string (bs av')]) : TagS w r s k v R2 T4 M5 A6 nm cl l va an' av' (w1.setCell ⟨A6, i, none⟩ u) where
  rd := Blk.far h.rd (Ne.symm (Blk.ne_ h.cur h.rd (by decide))) _
  on := h.on.setCell (p := ⟨A6, i, none⟩) (fun hlt => absurd hlt (Nat.not_lt.2 h.ge.2.2.2)) _
  res := Blk.far h.res (Blk.ne_ h.res h.cur (by decide)) _
  tok := Blk.far h.tok (Blk.ne_ h.tok h.cur (by decide)) _
  own := ownsRow_setCell_other h.own (a := ⟨A6, i, none⟩) h.ovn u
  ovn := h.ovn
  seen := seen_set h.seen (seen_ne h.seen h.cur) u
  cur := by have := Blk.set_ h.cur i u; rw [hu] at this; exact this
  ge := h.ge
  ne := h.ne
  len := h.len
  names := h.names
/-- A cell of the token is written. -/
theorem TagS.tok_ (h : TagS w r s k v R2 T4 M5 A6 nm cl l va an av w1) (cl' : Bool) : TagS w r s k v R2 T4 M5 A6 nm cl' l va an av (w1.setCell ⟨T4, 3, none⟩ (.bool cl')) where
  rd := Blk.far h.rd (Ne.symm (Blk.ne_ h.tok h.rd (by decide))) _
  on := h.on.setCell (p := ⟨T4, 3, none⟩) (fun hlt => absurd hlt (Nat.not_lt.2 h.ge.2.1)) _
  res := Blk.far h.res h.ne _
  tok := Blk.set_ h.tok 3 _
  own := ownsRow_setCell_other h.own (a := ⟨T4, 3, none⟩) (own_blk_ne h.own h.tok (by decide)) _
  ovn := h.ovn
  seen := seen_set h.seen (seen_ne h.seen h.tok) _
  cur := Blk.far h.cur (Blk.ne_ h.cur h.tok (by decide)) _
  ge := h.ge
  ne := h.ne
  len := h.len
  names := h.names
/-- The attribute goes behind the others. -/
theorem TagS.more {w3 w4 : World} {va' : Value} (h : TagS w r s k v R2 T4 M5 A6 nm cl l va an av w1) (hs : Seen w2 M5 (l.length + 1) (l.map (·.name) ++ [an])) (hg : w1.grownBy w2 (some M5)) (hk : l.length + 1 ≤ k) (han : an.length ≤ 1600000000)
    (hb : Below w2.heap.size w2 w3) (hown : w4.ownsRow w.heap.size 57 2 va' (l.length + 1) (atrCells l ++ [.string (bs an), .string (bs av)])) (hg2 : w3.grownBy w4 va.ownBlock) (hat : va'.ownBlock = va.ownBlock ∨ va'.ownBlock = some w3.heap.size) :
    TagS w r s k v R2 T4 M5 A6 nm cl (l ++ [⟨an, av⟩]) va' an av (w4.setCell ⟨T4, 2, none⟩ va') := by
  have hM := h.ge.2.2.1
  have e1 : ∀ {g : Nat} {t : TypeId} {cs : Array Value}, Blk w1 g t cs → Blk w2 g t cs := fun hx => hx.grown hg (fun e => by injection e with e; exact seen_ne h.seen hx e.symm)
  have e2 : ∀ {g : Nat} {t : TypeId} {cs : Array Value}, Blk w2 g t cs → Blk w3 g t cs := fun hx => hx.below hb (heap_lt hx)
  have o2 : w2.ownsRow w.heap.size 57 2 va l.length (atrCells l) := own_keepT h.own (fun g cur x => by
    refine (hg.block g (heap_lt x) (fun e => ?_)).trans x
    injection e with e
    obtain ⟨D, ⟨es, clock, h1, _⟩, _⟩ := h.seen
    rw [← e, x] at h1
    cases h1)
  have o3 : w3.ownsRow w.heap.size 57 2 va l.length (atrCells l) := own_keepT o2 (KeepT.below hb)
  have nb : ∀ {g : Nat} {t : TypeId} {cs : Array Value}, Blk w3 g t cs → t ≠ 57 → some g ≠ va.ownBlock := fun hx ht e => own_blk_ne o3 hx (Ne.symm ht) e.symm
  have r3 := e2 (e1 h.rd.blk)
  have R3 := e2 (e1 h.res)
  have t3 := e2 (e1 h.tok)
  have c3 := e2 (e1 h.cur)
  have r4 := r3.grown hg2 (nb r3 (by decide))
  have R4 := R3.grown hg2 (nb R3 (by decide))
  have t4 := t3.grown hg2 (nb t3 (by decide))
  have c4 := c3.grown hg2 (fun e => h.ovn e.symm)
  have s3 : Seen w3 M5 (l.length + 1) (l.map (·.name) ++ [an]) := seen_kept hs (hb.block M5 (seen_lt hs))
  have s4 : Seen w4 M5 (l.length + 1) (l.map (·.name) ++ [an]) := seen_kept s3 (hg2.block M5 (seen_lt s3) (fun e => by
    obtain ⟨cur, hx⟩ := own_row o3 e.symm
    obtain ⟨D, ⟨es, clock, h1, _⟩, _⟩ := s3
    rw [h1] at hx
    cases hx))
  have hlast : atrCells (l ++ [⟨an, av⟩]) = atrCells l ++ [.string (bs an), .string (bs av)] := by rw [atrCells_append]; rfl
  have on4 : Only (fun b => b = r) w w4 := by
    have a1 : Only (fun b => b = r) w w2 := h.on.grown hg (fun k hk hlt => by injection hk with hk; omega)
    exact (only_below a1 hb).grown hg2 (fun k hk hlt => by have := (h.own.lt k hk).1; omega)
  have hva : va'.ownBlock ≠ some A6 := by
    rcases hat with e | e
    · rw [e]; exact h.ovn
    · rw [e]
      intro e2
      injection e2 with e2
      have := heap_lt c3
      omega
  exact {
    rd := Blk.far r4 (Ne.symm (Blk.ne_ t4 r4 (by decide))) _
    on := on4.setCell (p := ⟨T4, 2, none⟩) (fun hlt => absurd hlt (Nat.not_lt.2 h.ge.2.1)) _
    res := Blk.far R4 h.ne _
    tok := Blk.set_ t4 2 _
    own := by
      rw [List.length_append, List.length_singleton, hlast]
      exact ownsRow_setCell_other hown (a := ⟨T4, 2, none⟩) (own_blk_ne hown t4 (by decide)) _
    ovn := hva
    seen := by
      rw [List.length_append, List.length_singleton, List.map_append]
      exact seen_set s4 (seen_ne s4 t4) _
    cur := Blk.far c4 (Blk.ne_ c4 t4 (by decide)) _
    ge := h.ge
    ne := h.ne
    len := by rw [List.length_append, List.length_singleton]; exact hk
    names := fun a ha => by
      rcases List.mem_append.1 ha with h1 | h1
      · exact h.names a h1
      · simp at h1; subst h1; exact han }
end Go.Proofs.YtlgaeeedkihfpaaGreatDoor.Uf

/-
  tok.reader's tag: its jumps; what stands behind the label 'named'.
-/
namespace Go.Proofs.YtlgaeeedkihfpaaGreatDoor.Uf
open Go.RowKit
open Tz (B Atr Tok tagG tagL blankB attrC valC nameC addA resolveL)

/-- What tag leaves. -/
def TagPost (w : World) (r : Nat) (s : B) (v : Value) (nm : B) (R : Option (Bool × List Atr × B)) (e : Ending) (w' : World) : Prop :=
  match R with
  | some (cl, l, x) => ∃ A c, e = .returned (.tuple #[.agg (tokCells ⟨2, nm, l, cl, []⟩ A c).toArray, .bool true]) ∧ w'.ownsRow w.heap.size 57 2 (.slice A l.length c) l.length (atrCells l) ∧ Rdr w' r s (s.length - x.length) v ∧ Only (fun b => b = r) w w'
  | none => e = .returned (.tuple #[.agg zero55, .bool false]) ∧ ∃ k, k ≤ s.length ∧ Rdr w' r s k v ∧ Only (fun b => b = r) w w'
/-- What holds wherever tag jumps. -/
def TagJ (w : World) (r : Nat) (s : B) (v : Value) (nm : B) (R : Option (Bool × List Atr × B)) (lb : Nat) (a : Act) (w1 : World) : Prop :=
  ∃ R2 T4 M5 A6 cl l va an av k, a.defers = [] ∧ TagF r R2 T4 M5 A6 a.tmps ∧ TagS w r s k v R2 T4 M5 A6 nm cl l va an av w1 ∧ k ≤ s.length ∧
    ((lb = 0 ∧ tagR (s.drop k) cl l = R) ∨ (lb = 1 ∧ tagR (s.drop k) cl (addA l an av) = R ∧ l.length + 1 ≤ k ∧ an.length ≤ 1600000000))

theorem exJumps_ret {J : Nat → Act → World → Prop} {Q : Exit → Act → World → Prop} {a : Act} {w : World} : exJumps J Q .ret a w = Q .ret a w := rfl
theorem exJumps_goto {J : Nat → Act → World → Prop} {Q : Exit → Act → World → Prop} {a : Act} {w : World} {n : Nat} : exJumps J Q (.goto n) a w = J n a w := rfl
theorem tag_ret {tmps : Array Value} {w1 : World} {g : Nat} {cs : Array Value} (hp : tmps.getD 2 undef = .pointer (some ⟨g, 0, none⟩)) (hg : w1.heap[g]? = some (.cells cs 55 (0, 0))) (hi : (Tryz.prog.info? 55).map (·.size) = some cs.size) :
    (results Tryz.f66 tmps).run Tryz.prog w1 = .ok (.tuple #[.agg cs, tmps.getD 3 undef]) w1 := by
  rw [results_cell_tmp (show Tryz.f66.results = #[.cell 2 55, .tmp 3] from rfl), hp]
  simp [asAddr, run_loadVar_row w1 g 55 55 cs (0, 0) _ hg Tryz.underlying55 rfl hi]
theorem TagS.hm {w w1 : World} {r k R2 T4 M5 A6 : Nat} {s nm an av : B} {v va : Value} {cl : Bool} {l : List Atr} {m : Int} (h : TagS w r s k v R2 T4 M5 A6 nm cl l va an av w1) (hm : w.cell? ⟨0, 0, none⟩ = some (.int .i64 m)) (hr : Rdr w r s k v ∨ ∃ k', Rdr w r s k' v) : w1.cell? ⟨0, 0, none⟩ = some (.int .i64 m) := by
  obtain ⟨k', hr⟩ : ∃ k', Rdr w r s k' v := by
    rcases hr with h | h
    · exact ⟨_, h⟩
    · exact h
  have h0 : 0 < w.heap.size := Nat.pos_of_ne_zero (fun e => by
    have := heap_lt hr
    omega)
  have hne : (0 : Nat) ≠ r := by
    rintro rfl
    have := hr.c0
    rw [hm] at this
    injection this with this
    cases this
  have hb := h.on.block 0 h0 hne
  unfold World.cell? at hm ⊢
  simp only [World.cell?, hb] at hm ⊢
  exact hm

noncomputable def tagC : Option Code := match Tryz.f66.body with | some (.seq _ (.scope c)) => some c | _ => none
noncomputable def tagB : Option Code := match tagC with | some c => (match findLabel c 0 with | some (.seq _ b) => some b | _ => none) | none => none
noncomputable def tagN : Option Code := match tagC with | some c => (match findLabel c 1 with | some (.seq _ b) => some b | _ => none) | none => none
theorem wp_cast {P : Program} {x : Option Code} {b c : Code} {Q : Exit → Act → World → Prop} {a : Act} {w : World} (h1 : x = some b) (h2 : x = some c) (h : b.wp P Q a w) : c.wp P Q a w := by
  rw [h1] at h2
  injection h2 with h2
  rw [← h2]
  exact h
theorem info57 : (Tryz.prog.info? 57).map (fun i => (i.zero, i.size, i.bytes)) = some (some (.agg #[.string ⟨#[]⟩, .string ⟨#[]⟩]), 2, 32) := by kernel_rfl
theorem hz57 : (Tryz.prog.info? 57).map (·.size) = some 2 := by kernel_rfl
theorem any_names (l : List Atr) (n : B) : (l.map (·.name)).contains n = l.any (fun a => a.name == n) := by
  induction l with
  | nil => rfl
  | cons a l ih =>
    simp only [List.map_cons, List.contains_cons, List.any_cons, ih]
    congr 1
    rw [Bool.beq_comm]

set_option maxRecDepth 100000 in
set_option maxHeartbeats 8000000 in
theorem named_w : ∃ N, tagN = some N ∧ ∀ {w W : World} {r k R2 T4 M5 A6 : Nat} {s nm an av : B} {v va : Value} {cl : Bool} {l : List Atr} {RR : Option (Bool × List Atr × B)} {J' : Nat → Act → World → Prop} {Q : Exit → Act → World → Prop} {t : Array Value}
    (_ : ∀ a w1, TagJ w r s v nm RR 0 a w1 → atOf w1 r = k → J' 0 a w1) (_ : TagF r R2 T4 M5 A6 t) (_ : TagS w r s k v R2 T4 M5 A6 nm cl l va an av W) (_ : k ≤ s.length) (_ : s.length ≤ 160000000)
    (_ : tagR (s.drop k) cl (addA l an av) = RR) (_ : l.length + 1 ≤ k) (_ : an.length ≤ 1600000000), N.wp Tryz.prog (exJumps J' Q) ⟨t, []⟩ W := by
  refine ⟨_, rfl, ?_⟩
  intro w W r k R2 T4 M5 A6 s nm an av v va cl l RR J' Q t hJ hF hS hk hs hT hlk han
  obtain ⟨hz, f0, f1, f2, f3, f4, f5, f6⟩ := hF
  obtain ⟨f, hf, ht⟩ := litf hz
  have g0 := (hf 0).trans f0
  have g1 := (hf 1).trans f1
  have g2 := (hf 2).trans f2
  have g3 := (hf 3).trans f3
  have g4 := (hf 4).trans f4
  have g5 := (hf 5).trans f5
  have g6 := (hf 6).trans f6
  rw [g0, g1, g2, g3, g4, g5, g6] at ht
  subst ht
  clear hf f0 f1 f2 f3 f4 f5 f6 g0 g1 g2 g3 g4 g5 g6
  clear hz
  have hlook := seen_look hS.seen han
  rw [any_names] at hlook
  have ca0 := Blk.cell hS.cur 0
  have HT := Lib.hid hT
  clear hT
  cases hany : l.any (fun a => a.name == an) with
  | true =>
    rw [hany] at hlook
    have hadd : addA l an av = l := by unfold addA; rw [if_pos hany]
    rw [hadd] at HT
    have HJ := Lib.hid hJ
    clear hJ
    go_wp2_with fail
    go_step3
    rw [exJumps_goto]
    exact HJ.out _ _ ⟨R2, T4, M5, A6, cl, l, va, an, av, k, rfl, ⟨rfl, rfl, rfl, rfl, rfl, rfl, rfl, rfl⟩, hS, hk, .inl ⟨rfl, HT.out⟩⟩ hS.rd.at_
  | false =>
    rw [hany] at hlook
    have hadd : addA l an av = l ++ [⟨an, av⟩] := by unfold addA; rw [if_neg (by rw [hany]; simp)]
    rw [hadd] at HT
    have HJ := Lib.hid hJ
    clear hJ
    obtain ⟨w2, hput, hs2, hg2⟩ := seen_put hS.seen han (by omega)
    obtain ⟨i0, hi, hz0, hz1, hzb⟩ := info_parts info57
    have hge := hS.ge
    have hW0 := hS.on.size
    have nM : ∀ {g : Nat} {t : TypeId} {cs : Array Value}, Blk W g t cs → some g ≠ some M5 := fun hx e => by injection e with e; exact seen_ne hS.seen hx e.symm
    have T2 := hS.tok.grown hg2 (nM hS.tok)
    have C2 := hS.cur.grown hg2 (nM hS.cur)
    have own2 : w2.ownsRow w.heap.size 57 2 va l.length (atrCells l) := own_keepT hS.own (fun g cur x => by
      refine (hg2.block g (heap_lt x) (nM x)).trans x)
    have own3 : World.ownsRow (w2.alloc (.cells #[.string (bs an), .string (bs av)] 57)) w.heap.size 57 2 va l.length (atrCells l) := own_keepT own2 (KeepT.below ((Below.refl _ w2).alloc (Nat.le_refl _) _))
    have T3 : Blk (w2.alloc (.cells #[.string (bs an), .string (bs av)] 57)) T4 55 _ := Blk.alloc T2 _
    have hz2 : w.heap.size ≤ w2.heap.size := Nat.le_trans hW0 hg2.size
    obtain ⟨a0, c0, rfl⟩ := own_slice hS.own
    have t2 := Blk.cell T2 2
    have ca2 := Blk.cell C2 0
    have cb2 := Blk.cell C2 1
    go_wp2_with (first
      | (with_reducible refine wpList_load_row rfl 57 (.tmp 6) rfl A6 rfl 57 #[.string (bs an), .string (bs av)] (0, 0) _ C2 Tryz.underlying57 rfl hz57 ?_)
      | (at_builtin; refine wpList_append_any _ rfl (.tmp 154) (.tmp 156) 53 rfl w.heap.size 57 i0 _ 2 32 Tryz.underlying53 hi hz0 hz1 hzb rfl (by omega) (.slice a0 l.length c0) l.length (atrCells l) rfl own3 _ _ 1 1 [.string (bs an), .string (bs av)] rfl (reads_row w2 57 _ 2 1 rfl) (by intro u hu; simp at hu; rcases hu with rfl | rfl <;> rfl) (by unfold maxLen; omega) (by omega) (by simp; omega) ?_; intro v4 w4 hown4 hg4 hat4; have T4b := T3.grown hg4 (fun e => own_blk_ne own3 T3 (by decide) e.symm); obtain ⟨a4, c4, rfl⟩ := own_slice hown4; have f4 := Blk.frozen T4b 2; have g4 := Blk.cell T4b 2))
    go_step3
    rw [exJumps_goto]
    have hS2 := hS.more hs2 hg2 hlk han ((Below.refl _ w2).alloc (Nat.le_refl _) (.cells #[.string (bs an), .string (bs av)] 57)) hown4 hg4 hat4
    exact HJ.out _ _ ⟨R2, T4, M5, A6, cl, _, _, an, av, k, rfl, ⟨rfl, rfl, rfl, rfl, rfl, rfl, rfl, rfl⟩, hS2, hk, .inl ⟨rfl, HT.out⟩⟩ hS2.rd.at_
end Go.Proofs.YtlgaeeedkihfpaaGreatDoor.Uf
