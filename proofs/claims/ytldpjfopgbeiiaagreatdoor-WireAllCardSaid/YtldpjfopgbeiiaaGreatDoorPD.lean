/- Part of a proof: an interpreter of the loaded code over abstract values, its soundness, and what the functions compute. Nothing is claimed here. -/
import Derived.Test.YtldpjfopgbeiiaaGreatDoorPC
import Derived.Test.YtldpjfopgbeiiaaGreatDoorProg
import Derived.Lib.TrimU
import Derived.Shelf.Unicode.DecodeAny
import Derived.Lib.LaidU8T
import Derived.PinnedBridge
import Derived.Test.YtldpjfopgbeiiaaGreatDoorRows
import Derived.Test.YtldpjfopgbeiiaaGreatDoorTie
import Derived.Test.YtldpjfopgbeiiaaGreatDoorCards
import Derived.Lib.LaidIn
import Derived.LaidMore
import Derived.ProofKit
import Derived.OpenShut
import Derived.Stop.Joined
import Derived.SevenTiedAt

namespace Go.AI
open Go.Proofs Go
def tys : Ty := (.node default (.node ⟨.func, 1, 8, [.lit .nilFunc], []⟩ (.node ⟨.int .i64, 1, 8, [.lit (.int .i64 0)], []⟩ (.node ⟨.struct [⟨0, 1, false, 2⟩, ⟨1, 1, false, 3⟩, ⟨2, 1, false, 4⟩, ⟨3, 1, false, 6⟩] false, 4, 24, [.lit (.int .i64 0), .lit (.int .i64 0), .lit (.bool false), .lit (.int .u8 0)], []⟩ (.node ⟨.ptr 125, 1, 8, [.lit (.pointer none)], []⟩ (.node default (.node ⟨.slice 95, 1, 24, [.nl 8], []⟩ (.node ⟨.struct [⟨0, 0, true, 126⟩] false, 0, 0, [], []⟩ .nil .nil) .nil) (.node ⟨.struct [⟨0, 1, false, 9⟩, ⟨1, 4, true, 92⟩, ⟨5, 1, false, 3⟩, ⟨6, 1, false, 3⟩, ⟨7, 1, false, 93⟩] false, 8, 96, [.lit (.string ⟨#[]⟩), .lit (.string ⟨#[]⟩), .lit (.bool false), .lit (.int .i64 0), .lit (.int .i64 0), .lit (.int .i64 0), .lit (.int .i64 0), .nl 5], []⟩ (.node ⟨.func, 1, 8, [.lit .nilFunc], []⟩ .nil .nil) .nil)) (.node ⟨.struct [⟨0, 1, false, 36⟩, ⟨1, 1, false, 3⟩, ⟨2, 1, false, 28⟩] false, 3, 40, [.nl 1, .lit (.int .i64 0), .lit (.int .i64 0)], []⟩ (.node ⟨.struct [⟨0, 1, false, 78⟩] false, 1, 8, [.lit (.pointer none)], []⟩ (.node ⟨.func, 1, 8, [.lit .nilFunc], []⟩ .nil .nil) .nil) (.node ⟨.struct [⟨0, 1, false, 21⟩, ⟨1, 1, false, 3⟩, ⟨2, 1, false, 3⟩, ⟨3, 1, false, 4⟩] true, 4, 32, [.lit (.int .i32 0), .lit (.int .i64 0), .lit (.int .i64 0), .lit (.bool false)], []⟩ .nil .nil))) (.node ⟨.slice 9, 1, 24, [.nl 1], []⟩ (.node ⟨.ptr 25, 1, 8, [.lit (.pointer none)], []⟩ (.node ⟨.func, 1, 8, [.lit .nilFunc], []⟩ (.node ⟨.int .i32, 1, 4, [.lit (.int .i32 0)], []⟩ .nil .nil) .nil) (.node ⟨.func, 1, 8, [.lit .nilFunc], []⟩ .nil .nil)) (.node ⟨.func, 1, 8, [.lit .nilFunc], []⟩ (.node ⟨.func, 1, 8, [.lit .nilFunc], []⟩ (.node ⟨.struct [⟨0, 1, false, 36⟩, ⟨1, 1, false, 3⟩, ⟨2, 1, false, 28⟩] false, 3, 40, [.nl 1, .lit (.int .i64 0), .lit (.int .i64 0)], []⟩ .nil .nil) .nil) (.node ⟨.int .u64, 1, 8, [.lit (.int .u64 0)], []⟩ .nil .nil)))) (.node ⟨.str, 1, 16, [.lit (.string ⟨#[]⟩)], []⟩ (.node ⟨.struct [⟨0, 1, false, 17⟩] false, 1, 8, [.lit (.pointer none)], []⟩ (.node ⟨.func, 1, 8, [.lit .nilFunc], []⟩ (.node ⟨.struct [⟨0, 1, false, 9⟩, ⟨1, 3, true, 65⟩] false, 4, 64, [.lit (.string ⟨#[]⟩), .lit (.string ⟨#[]⟩), .lit (.int .i64 0), .nl 8], []⟩ (.node ⟨.int .u8, 1, 1, [.lit (.int .u8 0)], []⟩ .nil .nil) .nil) (.node ⟨.struct [⟨0, 1, false, 9⟩, ⟨1, 4, true, 92⟩] true, 5, 56, [.lit (.string ⟨#[]⟩), .lit (.string ⟨#[]⟩), .lit (.bool false), .lit (.int .i64 0), .lit (.int .i64 0)], []⟩ .nil .nil)) (.node ⟨.ptr 53, 1, 8, [.lit (.pointer none)], [("Count", 21), ("End", 23), ("Muts", 20), ("Num", 19), ("Text", 22), ("Wrong", 24), ("clerestory/clerestoryref09.cell", 60), ("clerestory/clerestoryref09.part", 40), ("clerestory/clerestoryref09.raw", 39), ("clerestory/clerestoryref09.row", 52)]⟩ (.node ⟨.func, 1, 8, [.lit .nilFunc], []⟩ (.node ⟨.func, 1, 8, [.lit .nilFunc], []⟩ .nil .nil) .nil) (.node ⟨.func, 1, 8, [.lit .nilFunc], []⟩ .nil .nil))) (.node ⟨.func, 1, 8, [.lit .nilFunc], []⟩ (.node ⟨.func, 1, 8, [.lit .nilFunc], []⟩ (.node ⟨.ptr 22, 1, 8, [.lit (.pointer none)], []⟩ (.node ⟨.func, 1, 8, [.lit .nilFunc], []⟩ .nil .nil) .nil) (.node ⟨.func, 1, 8, [.lit .nilFunc], []⟩ .nil .nil)) (.node ⟨.func, 1, 8, [.lit .nilFunc], []⟩ (.node ⟨.struct [⟨0, 1, false, 9⟩, ⟨1, 1, false, 4⟩, ⟨2, 1, false, 3⟩, ⟨3, 1, false, 3⟩] true, 4, 40, [.lit (.string ⟨#[]⟩), .lit (.bool false), .lit (.int .i64 0), .lit (.int .i64 0)], []⟩ (.node ⟨.func, 1, 8, [.lit .nilFunc], []⟩ .nil .nil) .nil) (.node ⟨.func, 1, 8, [.lit .nilFunc], []⟩ .nil .nil))))) (.node ⟨.int .u8, 1, 1, [.lit (.int .u8 0)], []⟩ (.node ⟨.str, 1, 16, [.lit (.string ⟨#[]⟩)], []⟩ (.node ⟨.ptr 137, 1, 8, [.lit (.pointer none)], []⟩ (.node ⟨.func, 1, 8, [.lit .nilFunc], []⟩ (.node ⟨.struct [⟨0, 1, false, 9⟩, ⟨1, 1, false, 3⟩, ⟨2, 1, false, 63⟩] false, 3, 48, [.lit (.string ⟨#[]⟩), .lit (.int .i64 0), .nl 8], []⟩ (.node ⟨.int .u32, 1, 4, [.lit (.int .u32 0)], []⟩ .nil .nil) .nil) (.node ⟨.func, 1, 8, [.lit .nilFunc], []⟩ .nil .nil)) (.node ⟨.func, 1, 8, [.lit .nilFunc], []⟩ (.node ⟨.func, 1, 8, [.lit .nilFunc], []⟩ (.node default .nil .nil) .nil) (.node ⟨.func, 1, 8, [.lit .nilFunc], []⟩ .nil .nil))) (.node ⟨.struct [⟨0, 1, false, 3⟩, ⟨1, 1, false, 3⟩, ⟨2, 1, false, 3⟩, ⟨3, 1, false, 3⟩, ⟨4, 1, false, 22⟩, ⟨5, 1, false, 23⟩, ⟨6, 1, false, 3⟩] false, 7, 88, [.lit (.int .i64 0), .lit (.int .i64 0), .lit (.int .i64 0), .lit (.int .i64 0), .nl 4, .nl 1, .lit (.int .i64 0)], []⟩ (.node ⟨.iface, 1, 16, [.lit .nilIface], []⟩ (.node ⟨.struct [⟨0, 1, false, 72⟩] false, 1, 8, [.lit (.pointer none)], []⟩ (.node ⟨.struct [⟨0, 1, false, 12⟩, ⟨1, 1, false, 12⟩, ⟨2, 1, false, 129⟩, ⟨3, 1, false, 130⟩, ⟨4, 1, false, 5⟩, ⟨5, 1, false, 5⟩, ⟨6, 1, false, 131⟩, ⟨7, 1, false, 132⟩, ⟨8, 1, false, 133⟩, ⟨9, 1, false, 134⟩, ⟨10, 1, false, 135⟩] false, 11, 48, [.lit (.int .u64 0), .lit (.int .u64 0), .lit (.int .u32 0), .lit (.int .u8 0), .lit (.int .u8 0), .lit (.int .u8 0), .lit (.int .u8 0), .lit .nilFunc, .lit (.pointer none), .lit (.int .i32 0), .lit (.int .i32 0)], []⟩ .nil .nil) .nil) (.node ⟨.func, 1, 8, [.lit .nilFunc], []⟩ .nil .nil)) (.node ⟨.func, 1, 8, [.lit .nilFunc], []⟩ (.node ⟨.func, 1, 8, [.lit .nilFunc], []⟩ (.node ⟨.func, 1, 8, [.lit .nilFunc], []⟩ .nil .nil) .nil) (.node ⟨.struct [⟨0, 1, false, 5⟩, ⟨1, 1, false, 5⟩] false, 2, 2, [.lit (.int .u8 0), .lit (.int .u8 0)], []⟩ .nil .nil)))) (.node ⟨.struct [⟨0, 1, false, 9⟩, ⟨1, 1, false, 12⟩] false, 2, 24, [.lit (.string ⟨#[]⟩), .lit (.int .u64 0)], []⟩ (.node ⟨.int .i32, 1, 4, [.lit (.int .i32 0)], []⟩ (.node ⟨.slice 41, 1, 24, [.nl 1], []⟩ (.node ⟨.func, 1, 8, [.lit .nilFunc], []⟩ (.node ⟨.ptr 5, 1, 8, [.lit (.pointer none)], []⟩ .nil .nil) .nil) (.node ⟨.func, 1, 8, [.lit .nilFunc], []⟩ .nil .nil)) (.node ⟨.struct [⟨0, 1, false, 9⟩, ⟨1, 1, false, 3⟩, ⟨2, 1, false, 28⟩] true, 3, 32, [.lit (.string ⟨#[]⟩), .lit (.int .i64 0), .lit (.int .i64 0)], []⟩ (.node ⟨.func, 1, 8, [.lit .nilFunc], []⟩ (.node ⟨.func, 1, 8, [.lit .nilFunc], []⟩ .nil .nil) .nil) (.node ⟨.func, 1, 8, [.lit .nilFunc], []⟩ .nil .nil))) (.node default (.node ⟨.func, 1, 8, [.lit .nilFunc], []⟩ (.node ⟨.struct [⟨0, 1, false, 75⟩] false, 1, 8, [.lit (.pointer none)], [("clerestory/wire.get", 94), ("clerestory/wire.put", 95)]⟩ (.node ⟨.func, 1, 8, [.lit .nilFunc], []⟩ .nil .nil) .nil) (.node ⟨.func, 1, 8, [.lit .nilFunc], []⟩ .nil .nil)) (.node ⟨.func, 1, 8, [.lit .nilFunc], []⟩ (.node ⟨.slice 99, 1, 24, [.nl 5], []⟩ (.node ⟨.func, 1, 8, [.lit .nilFunc], []⟩ .nil .nil) .nil) (.node ⟨.struct [⟨0, 1, false, 17⟩, ⟨1, 1, false, 17⟩, ⟨2, 1, false, 17⟩, ⟨3, 1, false, 9⟩] false, 4, 40, [.lit (.pointer none), .lit (.pointer none), .lit (.pointer none), .lit (.string ⟨#[]⟩)], []⟩ .nil .nil)))))) (.node ⟨.int .i64, 1, 8, [.lit (.int .i64 0)], []⟩ (.node ⟨.bool, 1, 1, [.lit (.bool false)], []⟩ (.node ⟨.struct [⟨0, 1, false, 2⟩, ⟨1, 1, false, 3⟩, ⟨2, 1, false, 4⟩, ⟨3, 1, false, 6⟩] false, 4, 24, [.lit (.int .i64 0), .lit (.int .i64 0), .lit (.bool false), .lit (.int .u8 0)], []⟩ (.node ⟨.ptr 128, 1, 8, [.lit (.pointer none)], []⟩ (.node ⟨.func, 1, 8, [.lit .nilFunc], []⟩ (.node ⟨.struct [⟨0, 1, false, 9⟩, ⟨1, 1, false, 3⟩, ⟨2, 1, false, 63⟩] false, 3, 48, [.lit (.string ⟨#[]⟩), .lit (.int .i64 0), .nl 8], []⟩ (.node ⟨.struct [⟨0, 0, true, 126⟩] false, 0, 0, [], []⟩ .nil .nil) .nil) (.node ⟨.func, 1, 8, [.lit .nilFunc], []⟩ (.node default .nil .nil) .nil)) (.node ⟨.struct [⟨0, 1, false, 36⟩, ⟨1, 1, false, 3⟩, ⟨2, 1, false, 28⟩] false, 3, 40, [.nl 1, .lit (.int .i64 0), .lit (.int .i64 0)], []⟩ (.node ⟨.struct [⟨0, 1, false, 78⟩] false, 1, 8, [.lit (.pointer none)], [("clerestory/wire.get", 121), ("clerestory/wire.put", 122)]⟩ (.node ⟨.func, 1, 8, [.lit .nilFunc], []⟩ .nil .nil) .nil) (.node ⟨.struct [⟨0, 1, false, 21⟩, ⟨1, 1, false, 3⟩, ⟨2, 1, false, 3⟩, ⟨3, 1, false, 4⟩] true, 4, 32, [.lit (.int .i32 0), .lit (.int .i64 0), .lit (.int .i64 0), .lit (.bool false)], []⟩ .nil .nil))) (.node ⟨.struct [⟨0, 1, false, 3⟩, ⟨1, 1, false, 3⟩, ⟨2, 1, false, 3⟩, ⟨3, 1, false, 3⟩, ⟨4, 1, false, 22⟩, ⟨5, 1, false, 23⟩, ⟨6, 1, false, 3⟩] false, 7, 88, [.lit (.int .i64 0), .lit (.int .i64 0), .lit (.int .i64 0), .lit (.int .i64 0), .nl 4, .nl 1, .lit (.int .i64 0)], []⟩ (.node ⟨.iface, 1, 16, [.lit .nilIface], []⟩ (.node ⟨.ptr 3, 1, 8, [.lit (.pointer none)], []⟩ (.node ⟨.struct [⟨0, 1, false, 12⟩, ⟨1, 1, false, 12⟩, ⟨2, 1, false, 129⟩, ⟨3, 1, false, 130⟩, ⟨4, 1, false, 5⟩, ⟨5, 1, false, 5⟩, ⟨6, 1, false, 131⟩, ⟨7, 1, false, 132⟩, ⟨8, 1, false, 133⟩, ⟨9, 1, false, 134⟩, ⟨10, 1, false, 135⟩] false, 11, 48, [.lit (.int .u64 0), .lit (.int .u64 0), .lit (.int .u32 0), .lit (.int .u8 0), .lit (.int .u8 0), .lit (.int .u8 0), .lit (.int .u8 0), .lit .nilFunc, .lit (.pointer none), .lit (.int .i32 0), .lit (.int .i32 0)], []⟩ .nil .nil) .nil) (.node default .nil .nil)) (.node ⟨.func, 1, 8, [.lit .nilFunc], []⟩ (.node ⟨.func, 1, 8, [.lit .nilFunc], []⟩ (.node ⟨.func, 1, 8, [.lit .nilFunc], []⟩ .nil .nil) .nil) (.node ⟨.struct [⟨0, 1, false, 5⟩, ⟨1, 1, false, 5⟩] false, 2, 2, [.lit (.int .u8 0), .lit (.int .u8 0)], []⟩ .nil .nil)))) (.node ⟨.int .u64, 1, 8, [.lit (.int .u64 0)], []⟩ (.node ⟨.iface, 1, 16, [.lit .nilIface], []⟩ (.node ⟨.slice 5, 1, 24, [.nl 1], []⟩ (.node ⟨.func, 1, 8, [.lit .nilFunc], []⟩ (.node ⟨.func, 1, 8, [.lit .nilFunc], []⟩ .nil .nil) .nil) (.node default .nil .nil)) (.node ⟨.struct [⟨0, 1, false, 9⟩, ⟨1, 1, false, 3⟩, ⟨2, 1, false, 28⟩] true, 3, 32, [.lit (.string ⟨#[]⟩), .lit (.int .i64 0), .lit (.int .i64 0)], []⟩ (.node ⟨.func, 1, 8, [.lit .nilFunc], []⟩ (.node ⟨.ptr 151, 1, 8, [.lit (.pointer none)], [("clerestory/pack.any", 115), ("clerestory/pack.cell", 116), ("clerestory/pack.col", 118), ("clerestory/pack.count", 114), ("clerestory/pack.end", 112), ("clerestory/pack.fail", 107), ("clerestory/pack.left", 119), ("clerestory/pack.number", 109), ("clerestory/pack.part", 103), ("clerestory/pack.row", 111), ("clerestory/pack.text", 108), ("clerestory/pack.truth", 120)]⟩ .nil .nil) .nil) (.node ⟨.func, 1, 8, [.lit .nilFunc], []⟩ .nil .nil))) (.node ⟨.int .i64, 1, 8, [.lit (.int .i64 0)], []⟩ (.node ⟨.func, 1, 8, [.lit .nilFunc], []⟩ (.node ⟨.struct [⟨0, 1, false, 75⟩] false, 1, 8, [.lit (.pointer none)], []⟩ (.node ⟨.func, 1, 8, [.lit .nilFunc], []⟩ .nil .nil) .nil) (.node ⟨.slice 112, 1, 24, [.nl 4], []⟩ .nil .nil)) (.node ⟨.func, 1, 8, [.lit .nilFunc], []⟩ (.node ⟨.struct [⟨0, 1, false, 9⟩, ⟨1, 1, false, 4⟩, ⟨2, 1, false, 3⟩, ⟨3, 1, false, 3⟩] true, 4, 40, [.lit (.string ⟨#[]⟩), .lit (.bool false), .lit (.int .i64 0), .lit (.int .i64 0)], []⟩ (.node ⟨.func, 1, 8, [.lit .nilFunc], []⟩ .nil .nil) .nil) (.node ⟨.struct [⟨0, 1, false, 17⟩, ⟨1, 1, false, 17⟩, ⟨2, 1, false, 17⟩, ⟨3, 1, false, 9⟩] false, 4, 40, [.lit (.pointer none), .lit (.pointer none), .lit (.pointer none), .lit (.string ⟨#[]⟩)], []⟩ .nil .nil))))) (.node ⟨.int .u8, 1, 1, [.lit (.int .u8 0)], []⟩ (.node ⟨.str, 1, 16, [.lit (.string ⟨#[]⟩)], []⟩ (.node ⟨.struct [⟨0, 1, false, 17⟩] false, 1, 8, [.lit (.pointer none)], []⟩ (.node ⟨.func, 1, 8, [.lit .nilFunc], []⟩ (.node ⟨.struct [⟨0, 1, false, 9⟩, ⟨1, 3, true, 65⟩] false, 4, 64, [.lit (.string ⟨#[]⟩), .lit (.string ⟨#[]⟩), .lit (.int .i64 0), .nl 8], []⟩ (.node ⟨.int .u8, 1, 1, [.lit (.int .u8 0)], []⟩ .nil .nil) .nil) (.node ⟨.struct [⟨0, 1, false, 9⟩, ⟨1, 4, true, 92⟩] true, 5, 56, [.lit (.string ⟨#[]⟩), .lit (.string ⟨#[]⟩), .lit (.bool false), .lit (.int .i64 0), .lit (.int .i64 0)], []⟩ .nil .nil)) (.node ⟨.func, 1, 8, [.lit .nilFunc], []⟩ (.node ⟨.int .u64, 1, 8, [.lit (.int .u64 0)], []⟩ (.node ⟨.func, 1, 8, [.lit .nilFunc], []⟩ .nil .nil) .nil) (.node ⟨.func, 1, 8, [.lit .nilFunc], []⟩ .nil .nil))) (.node ⟨.func, 1, 8, [.lit .nilFunc], []⟩ (.node ⟨.func, 1, 8, [.lit .nilFunc], []⟩ (.node ⟨.struct [⟨0, 1, false, 72⟩] false, 1, 8, [.lit (.pointer none)], [("clerestory/wire.get", 86), ("clerestory/wire.put", 87)]⟩ (.node ⟨.func, 1, 8, [.lit .nilFunc], []⟩ .nil .nil) .nil) (.node ⟨.func, 1, 8, [.lit .nilFunc], []⟩ .nil .nil)) (.node ⟨.func, 1, 8, [.lit .nilFunc], []⟩ (.node ⟨.func, 1, 8, [.lit .nilFunc], []⟩ (.node ⟨.func, 1, 8, [.lit .nilFunc], []⟩ .nil .nil) .nil) (.node ⟨.array 16 121, 32, 32, [.lit (.int .u8 0), .lit (.int .u8 0), .lit (.int .u8 0), .lit (.int .u8 0), .lit (.int .u8 0), .lit (.int .u8 0), .lit (.int .u8 0), .lit (.int .u8 0), .lit (.int .u8 0), .lit (.int .u8 0), .lit (.int .u8 0), .lit (.int .u8 0), .lit (.int .u8 0), .lit (.int .u8 0), .lit (.int .u8 0), .lit (.int .u8 0), .lit (.int .u8 0), .lit (.int .u8 0), .lit (.int .u8 0), .lit (.int .u8 0), .lit (.int .u8 0), .lit (.int .u8 0), .lit (.int .u8 0), .lit (.int .u8 0), .lit (.int .u8 0), .lit (.int .u8 0), .lit (.int .u8 0), .lit (.int .u8 0), .lit (.int .u8 0), .lit (.int .u8 0), .lit (.int .u8 0), .lit (.int .u8 0)], []⟩ .nil .nil)))) (.node ⟨.struct [⟨0, 1, false, 9⟩, ⟨1, 1, false, 12⟩] false, 2, 24, [.lit (.string ⟨#[]⟩), .lit (.int .u64 0)], []⟩ (.node ⟨.slice 67, 1, 24, [.nl 4], []⟩ (.node ⟨.func, 1, 8, [.lit .nilFunc], []⟩ (.node ⟨.func, 1, 8, [.lit .nilFunc], []⟩ (.node ⟨.int .i32, 1, 4, [.lit (.int .i32 0)], []⟩ .nil .nil) .nil) (.node ⟨.func, 1, 8, [.lit .nilFunc], []⟩ .nil .nil)) (.node ⟨.func, 1, 8, [.lit .nilFunc], []⟩ (.node ⟨.func, 1, 8, [.lit .nilFunc], []⟩ (.node ⟨.struct [⟨0, 1, false, 36⟩, ⟨1, 1, false, 3⟩, ⟨2, 1, false, 28⟩] false, 3, 40, [.nl 1, .lit (.int .i64 0), .lit (.int .i64 0)], []⟩ .nil .nil) .nil) (.node ⟨.array 256 5, 256, 256, [], []⟩ .nil .nil))) (.node ⟨.func, 1, 8, [.lit .nilFunc], []⟩ (.node ⟨.ptr 48, 1, 8, [.lit (.pointer none)], [("clerestory/wire.any", 90), ("clerestory/wire.count", 85), ("clerestory/wire.fail", 18), ("clerestory/wire.number", 88), ("clerestory/wire.part", 97), ("clerestory/wire.text", 96)]⟩ (.node ⟨.ptr 23, 1, 8, [.lit (.pointer none)], []⟩ (.node default .nil .nil) .nil) (.node ⟨.func, 1, 8, [.lit .nilFunc], []⟩ .nil .nil)) (.node ⟨.func, 1, 8, [.lit .nilFunc], []⟩ (.node ⟨.struct [⟨0, 1, false, 9⟩, ⟨1, 4, true, 92⟩, ⟨5, 1, false, 3⟩, ⟨6, 1, false, 3⟩, ⟨7, 1, false, 93⟩] false, 8, 96, [.lit (.string ⟨#[]⟩), .lit (.string ⟨#[]⟩), .lit (.bool false), .lit (.int .i64 0), .lit (.int .i64 0), .lit (.int .i64 0), .lit (.int .i64 0), .nl 5], []⟩ (.node ⟨.func, 1, 8, [.lit .nilFunc], []⟩ .nil .nil) .nil) (.node ⟨.array 0 16, 0, 0, [], []⟩ .nil .nil)))))))
def CZ0 : Ctx := { n := 161, ty := tys, κ := fun _ => false, ord := fun _ => ([], [], 0) }
theorem ctxOk0 : CtxOk Tryz.prog CZ0 := ctxOk_of (by kernel_rfl) (by kernel_rfl)
theorem hP : Tryz.prog.follows .mixedOrders = true := by kernel_rfl
def CO (l : List Nat) (od : Nat → List Nat × List Nat × Nat) : Ctx := { CZ0 with κ := fun s => l.any (Nat.beq s), ord := od }
theorem cOkO (l : List Nat) (od : Nat → List Nat × List Nat × Nat) : CtxOk Tryz.prog (CO l od) := ctxOk0
end Go.AI

namespace Go.AI
open Go.Proofs Go
variable (W0 : World)
set_option maxRecDepth 20000

theorem c_own (b : List V) (h : H) : ACalls Tryz.prog W0 92 [.v (.sl 1 b)] h fun r h' => r = .own 1 b ∧ h' = h := by
  refine ACalls.of (C := CO [] fun _ => ([], [], 0)) (cOkO _ _) hP (fn := Tryz.f92) (by kernel_rfl) (by kernel_rfl) ?_
  refine ⟨⟨by omega, by omega⟩, ⟨by omega, by omega⟩, rfl, ?_⟩
  refine ⟨?_, rfl⟩
  have h1 : (b.take (b.length : Int).toNat).drop 0 = b := by simp
  exact congrArg (A.own 1) h1

def tabL : List UInt8 := (([0, 1, 2, 2, 3, 3, 3, 3, 4, 4, 4, 4, 4, 4, 4, 4, 5, 5, 5, 5, 5, 5, 5, 5, 5, 5, 5, 5, 5, 5, 5, 5] ++ List.replicate 32 6) ++ List.replicate 64 7) ++ List.replicate 128 8
theorem tab_blen : ∀ i : Nat, i < 256 → ((tabL.toArray).getD i 0).toNat = blen i := by decide +kernel

/-- The leaf: the table's entry behind so many bits. -/
theorem len_leaf {v k w : Nat} (hk : 2 ^ k ≤ v ∨ k = 0) (hw : w = v / 2 ^ k) (n : Int) (hn : n = k) : n + ((blen w : Nat) : Int) = blen v := by
  subst hw; subst hn
  rcases hk with hk | rfl
  · rw [blen_shift hk]; omega
  · simp

def S32 (x : Int) : Int := x.fdiv (2 ^ min (Int.toNat 32) IntKind.u64.bits)
def S16 (x : Int) : Int := x.fdiv (2 ^ min (Int.toNat 16) IntKind.u64.bits)
def S8 (x : Int) : Int := x.fdiv (2 ^ min (Int.toNat 8) IntKind.u64.bits)
theorem c_Len64 (v : Nat) (hv : v < 2 ^ 64) (h : H) : ACalls Tryz.prog W0 91 [.v (.lit (.int .u64 v))] h fun r h' => r = .v (.i (blen v)) ∧ h' = h := by
  refine ACalls.of (C := CO [] fun _ => ([], [], 0)) (cOkO _ _) hP (fn := Tryz.f91) (by kernel_rfl) (by kernel_rfl) ?_
  have e32 : ∀ v : Nat, (v : Int).fdiv (2 ^ min (Int.toNat 32) IntKind.u64.bits) = ((v / 2 ^ 32 : Nat) : Int) := fun v => fdiv_shr v 32
  have e16 : ∀ v : Nat, (v : Int).fdiv (2 ^ min (Int.toNat 16) IntKind.u64.bits) = ((v / 2 ^ 16 : Nat) : Int) := fun v => fdiv_shr v 16
  have e8 : ∀ v : Nat, (v : Int).fdiv (2 ^ min (Int.toNat 8) IntKind.u64.bits) = ((v / 2 ^ 8 : Nat) : Int) := fun v => fdiv_shr v 8
  have E32 : ∀ v : Nat, S32 v = ((v / 2 ^ 32 : Nat) : Int) := e32
  have E16 : ∀ v : Nat, S16 v = ((v / 2 ^ 16 : Nat) : Int) := e16
  have E8 : ∀ v : Nat, S8 v = ((v / 2 ^ 8 : Nat) : Int) := e8
  -- the last region, from a clean state
  have leaf : ∀ (w k : Nat) (X N : Int), X = (w : Int) → w < 256 → N = (k : Int) → k ≤ 56 → (2 ^ k ≤ v ∨ k = 0) → w = v / 2 ^ k →
      ∃ z, IntKind.u8.wrap X = z ∧ ob none (0 ≤ z ∧ z < ((⟨tabL.toArray⟩ : ByteArray).size : Int)) ∧ ∃ y, IntKind.i64.wrap (((⟨tabL.toArray⟩ : ByteArray).data.getD z.toNat 0).toNat : Int) = y ∧ ob none (inI64 (N + y)) ∧ N + y = blen v := by
    intro w k X N hX hw hN hk h1 h2
    subst hX; subst hN
    have ht := tab_blen w hw
    have hb : blen w ≤ 8 := blen_le (k := 8) hw
    refine ⟨w, wrapU8 (by omega) (by omega), ⟨by omega, ?_⟩, blen w, ?_, ?_, len_leaf h1 h2 _ rfl⟩
    · have : (⟨tabL.toArray⟩ : ByteArray).size = 256 := by decide +kernel
      rw [this]; omega
    · show IntKind.i64.wrap (((tabL.toArray).getD (w : Int).toNat 0).toNat : Int) = _
      rw [Int.toNat_natCast, ht]; exact wrapI64 (by omega) (by omega)
    · show inI64 _; unfold inI64; omega
  have d32 : v / 2 ^ 32 / 2 ^ 16 = v / 2 ^ 48 := by rw [Nat.div_div_eq_div_mul]
  refine ⟨fun c1 => ?_, fun c1 => ?_⟩
  · replace c1 : (4294967296:Int) ≤ v := of_decide_eq_true c1
    refine ⟨by show (0:Int) ≤ 32; decide, ?_⟩
    have q1 : v / 2 ^ 32 < 2 ^ 32 := by omega
    refine ⟨fun c2 => ?_, fun c2 => ?_⟩
    · replace c2 := of_decide_eq_true c2
      rw [e32] at c2
      refine ⟨by show (0:Int) ≤ 16; decide, by show inI64 (32 + 16); unfold inI64; decide, ?_⟩
      refine ⟨fun c3 => ?_, fun c3 => ?_⟩
      · replace c3 := of_decide_eq_true c3
        rw [e32, e16] at c3
        refine ⟨by show (0:Int) ≤ 8; decide, by show inI64 (32 + 16 + 8); unfold inI64; decide, ?_⟩
        obtain ⟨z, p1, p2, y, p3, p4, p5⟩ := leaf (v / 2 ^ 32 / 2 ^ 16 / 2 ^ 8) 56 (S8 (S16 (S32 (v : Int)))) (32 + 16 + 8) (by rw [E32, E16, E8]) (by omega) rfl (by omega) (.inl (by omega)) (by omega)
        exact ⟨z, p1, p2, y, p3, p4, congrArg (fun n => A.v (V.i n)) p5, rfl⟩
      · replace c3 := of_decide_eq_false c3
        rw [e32, e16] at c3
        obtain ⟨z, p1, p2, y, p3, p4, p5⟩ := leaf (v / 2 ^ 32 / 2 ^ 16) 48 (S16 (S32 (v : Int))) (32 + 16) (by rw [E32, E16]) (by omega) rfl (by omega) (.inl (by omega)) (by omega)
        exact ⟨z, p1, p2, y, p3, p4, congrArg (fun n => A.v (V.i n)) p5, rfl⟩
    · replace c2 := of_decide_eq_false c2
      rw [e32] at c2
      refine ⟨fun c3 => ?_, fun c3 => ?_⟩
      · replace c3 := of_decide_eq_true c3
        rw [e32] at c3
        refine ⟨by show (0:Int) ≤ 8; decide, by show inI64 (32 + 8); unfold inI64; decide, ?_⟩
        obtain ⟨z, p1, p2, y, p3, p4, p5⟩ := leaf (v / 2 ^ 32 / 2 ^ 8) 40 (S8 (S32 (v : Int))) (32 + 8) (by rw [E32, E8]) (by omega) rfl (by omega) (.inl (by omega)) (by omega)
        exact ⟨z, p1, p2, y, p3, p4, congrArg (fun n => A.v (V.i n)) p5, rfl⟩
      · replace c3 := of_decide_eq_false c3
        rw [e32] at c3
        obtain ⟨z, p1, p2, y, p3, p4, p5⟩ := leaf (v / 2 ^ 32) 32 (S32 (v : Int)) 32 (by rw [E32]) (by omega) rfl (by omega) (.inl (by omega)) (by omega)
        exact ⟨z, p1, p2, y, p3, p4, congrArg (fun n => A.v (V.i n)) p5, rfl⟩
  · replace c1 : ¬ (4294967296:Int) ≤ v := of_decide_eq_false c1
    refine ⟨fun c2 => ?_, fun c2 => ?_⟩
    · replace c2 : (65536:Int) ≤ v := of_decide_eq_true c2
      refine ⟨by show (0:Int) ≤ 16; decide, by show inI64 (0 + 16); unfold inI64; decide, ?_⟩
      refine ⟨fun c3 => ?_, fun c3 => ?_⟩
      · replace c3 := of_decide_eq_true c3
        rw [e16] at c3
        refine ⟨by show (0:Int) ≤ 8; decide, by show inI64 (0 + 16 + 8); unfold inI64; decide, ?_⟩
        obtain ⟨z, p1, p2, y, p3, p4, p5⟩ := leaf (v / 2 ^ 16 / 2 ^ 8) 24 (S8 (S16 (v : Int))) (0 + 16 + 8) (by rw [E16, E8]) (by omega) rfl (by omega) (.inl (by omega)) (by omega)
        exact ⟨z, p1, p2, y, p3, p4, congrArg (fun n => A.v (V.i n)) p5, rfl⟩
      · replace c3 := of_decide_eq_false c3
        rw [e16] at c3
        obtain ⟨z, p1, p2, y, p3, p4, p5⟩ := leaf (v / 2 ^ 16) 16 (S16 (v : Int)) (0 + 16) (by rw [E16]) (by omega) rfl (by omega) (.inl (by omega)) (by omega)
        exact ⟨z, p1, p2, y, p3, p4, congrArg (fun n => A.v (V.i n)) p5, rfl⟩
    · replace c2 : ¬ (65536:Int) ≤ v := of_decide_eq_false c2
      refine ⟨fun c3 => ?_, fun c3 => ?_⟩
      · replace c3 : (256:Int) ≤ v := of_decide_eq_true c3
        refine ⟨by show (0:Int) ≤ 8; decide, by show inI64 (0 + 8); unfold inI64; decide, ?_⟩
        obtain ⟨z, p1, p2, y, p3, p4, p5⟩ := leaf (v / 2 ^ 8) 8 (S8 (v : Int)) (0 + 8) (by rw [E8]) (by omega) rfl (by omega) (.inl (by omega)) (by omega)
        exact ⟨z, p1, p2, y, p3, p4, congrArg (fun n => A.v (V.i n)) p5, rfl⟩
      · replace c3 : ¬ (256:Int) ≤ v := of_decide_eq_false c3
        obtain ⟨z, p1, p2, y, p3, p4, p5⟩ := leaf v 0 (v : Int) 0 rfl (by omega) rfl (by omega) (.inr rfl) (by omega)
        exact ⟨z, p1, p2, y, p3, p4, congrArg (fun n => A.v (V.i n)) p5, rfl⟩
theorem tdiv8 (m : Nat) : Int.tdiv ((m : Int) + 8 - 1) 8 = (((m + 7) / 8 : Nat) : Int) := by
  rw [Int.tdiv_eq_ediv_of_nonneg (by omega)]; omega

theorem c_Num (b : List UInt8) (v : Nat) (hv : v < 2 ^ 64) (hb : b.length ≤ 2 ^ 45) (h : H) :
    ACalls Tryz.prog W0 89 [.v (.sl 1 (V.bytes b)), .v (.lit (.int .u64 v))] h fun r h' => r = .own 1 (V.bytes (b ++ numB v)) ∧ h' = h := by
  refine ACalls.of (C := CO [23, 31] fun _ => ([], [], 0)) (cOkO _ _) hP (fn := Tryz.f89) (by kernel_rfl) (by kernel_rfl) ?_
  have hbl := blen_le hv
  have hn8 := nby_le hv
  refine (c_Len64 W0 v hv h).mono ?_
  rintro _ h ⟨rfl, rfl⟩
  refine ⟨by show inI64 ((blen v : Int) + 8); unfold inI64; omega, ?_⟩
  refine ⟨by show inI64 ((blen v : Int) + 8 - 1); unfold inI64; omega, ?_⟩
  refine ⟨⟨by show (8:Int) ≠ 0; decide, by show IntKind.i64.wrap (Int.tdiv ((blen v : Int) + 8 - 1) 8) = _; rw [tdiv8]; exact wrapI64 (by omega) (by omega)⟩, ?_⟩
  refine (c_own W0 (V.bytes b) _).mono ?_
  rintro _ h ⟨rfl, rfl⟩
  have hX : Int.tdiv ((blen v : Int) + 8 - 1) 8 = (nby v : Int) := tdiv8 _
  refine ⟨((UInt8.ofNat (nby v)).toNat : Int), ?_, ?_⟩
  · show IntKind.u8.wrap (Int.tdiv ((blen v : Int) + 8 - 1) 8) = _
    rw [hX, wrapU8_mod]; simp
  refine ⟨?_, V.bytes (b ++ [UInt8.ofNat (nby v)]), bytes_append b [_], ?_⟩
  · show ((V.bytes b).length + 1) * 1 ≤ 70368744177664
    rw [bytes_length]; omega
  refine ⟨by show inI64 (Int.tdiv ((blen v : Int) + 8 - 1) 8 - 1); rw [hX]; unfold inI64; omega, ?_⟩
  refine ⟨0, [0, 1, 5], 0, fun m xs l h2 => ∃ acc : List UInt8, xs = [.own 1 (V.bytes acc), .v (.lit (.int .u64 v)), .v (V.i ((m : Int) - 1))] ∧ l = [] ∧ h2 = h ∧ m ≤ nby v ∧ acc ++ beB v m = b ++ numB v, ⟨nby v, b ++ [UInt8.ofNat (nby v)], ?_, rfl, rfl, Nat.le_refl _, by simp [numB]⟩, ?_⟩
  · rw [← hX]; rfl
  rintro m xs l h2 ⟨acc, rfl, rfl, rfl, hm, hacc⟩
  have hlen : acc.length + m = b.length + (nby v + 1) := by
    have := congrArg List.length hacc
    simpa [beB_length, numB_length] using this
  refine ⟨fun c => ?_, fun c => ?_⟩
  · replace c : (0:Int) ≤ (m : Int) - 1 := of_decide_eq_true c
    obtain ⟨k, rfl⟩ : ∃ k, m = k + 1 := ⟨m - 1, by omega⟩
    have hk : ((k + 1 : Nat) : Int) - 1 = (k : Int) := by omega
    refine ⟨by show inI64 (8 * (((k + 1 : Nat) : Int) - 1)); unfold inI64; omega, ?_⟩
    refine ⟨by show (0:Int) ≤ 8 * (((k + 1 : Nat) : Int) - 1); omega, ?_⟩
    refine ⟨((UInt8.ofNat (v / 256 ^ k)).toNat : Int), ?_, ?_⟩
    · show IntKind.u8.wrap ((v : Int).fdiv (2 ^ (min (8 * (((k + 1 : Nat) : Int) - 1)).toNat 64))) = _
      have : min (8 * (((k + 1 : Nat) : Int) - 1)).toNat 64 = 8 * k := by omega
      rw [this, fdiv_shr, wrapU8_mod, Nat.pow_mul]
      simp
    refine ⟨?_, V.bytes (acc ++ [UInt8.ofNat (v / 256 ^ k)]), bytes_append acc [_], ?_⟩
    · show ((V.bytes acc).length + 1) * 1 ≤ 70368744177664
      rw [bytes_length]; omega
    refine ⟨by show inI64 (((k + 1 : Nat) : Int) - 1 - 1); unfold inI64; omega, ?_⟩
    refine ⟨k, by omega, acc ++ [UInt8.ofNat (v / 256 ^ k)], ?_, rfl, rfl, by omega, ?_⟩
    · have : ((k + 1 : Nat) : Int) - 1 - 1 = (k : Int) - 1 := by omega
      rw [← this]; rfl
    · rw [← hacc]; simp [beB]
  · replace c : ¬ (0:Int) ≤ (m : Int) - 1 := of_decide_eq_false c
    have hm0 : m = 0 := by omega
    subst hm0
    simp only [beB, List.append_nil] at hacc
    refine ⟨?_, rfl⟩
    rw [← hacc]; rfl
end Go.AI

namespace Go.AI
open Go.Proofs Go
variable (W0 : World)
set_option maxRecDepth 20000
set_option maxHeartbeats 1000000

theorem c_GetNum (b : List UInt8) (p : Nat) (hp : p ≤ 2 ^ 45) (hb : b.length ≤ 2 ^ 45) (h : H) :
    ACalls Tryz.prog W0 93 [.v (.sl 1 (V.bytes b)), .v (V.i p)] h fun r h' =>
      r = .v (.tup [.lit (.int .u64 (getNum b p).1), V.i (getNum b p).2.1, V.i (getNum b p).2.2]) ∧ h' = h := by
  obtain ⟨c, hc⟩ : ∃ c, c = (b[p]?.getD 0).toNat := ⟨_, rfl⟩
  obtain ⟨s, hl⟩ : ∃ s, s = (b.drop (p + 1)).take c := ⟨_, rfl⟩
  refine ACalls.of (C := CO [] fun _ => ([], [], 0)) (cOkO _ _) hP (fn := Tryz.f93) (by kernel_rfl) (by kernel_rfl) ?_
  have hlen := bytes_length b
  have key : ∀ g : Nat × Nat × Nat, getNum b p = g → (A.v (.tup [.lit (.int .u64 g.1), V.i g.2.1, V.i g.2.2]) = A.v (.tup [.lit (.int .u64 (getNum b p).1), V.i (getNum b p).2.1, V.i (getNum b p).2.2])) := by
    rintro g rfl; rfl
  have gp : ∀ (i : Int) (k : Nat), i = k → k < b.length → (V.bytes b)[i.toNat]? = some (V.u8 (b[k]?.getD 0)) := by
    rintro i k rfl hk; rw [Int.toNat_natCast]; exact bytes_get b k hk
  refine ⟨fun c1 => ?_, fun c1 => ?_⟩
  · replace c1 : b.length < p := by
      have : ((p : Int) < 0) ∨ ((p : Int) > ((V.bytes b).length : Int)) := by simpa using c1
      omega
    refine ⟨?_, rfl⟩
    exact key (0, 0, 1) (by unfold getNum; rw [if_pos c1])
  replace c1 : ¬ b.length < p := by
    have : ¬ (((p : Int) < 0) ∨ ((p : Int) > ((V.bytes b).length : Int))) := by simpa using c1
    omega
  refine ⟨fun c2 => ?_, fun c2 => ?_⟩
  · replace c2 : p = b.length := by
      have : (p : Int) = ((V.bytes b).length : Int) := by simpa using c2
      omega
    exact ⟨key (0, 0, 8) (by unfold getNum; rw [if_neg c1, if_pos c2]), rfl⟩
  replace c2 : ¬ p = b.length := by
    have : ¬ (p : Int) = ((V.bytes b).length : Int) := by simpa using c2
    omega
  have hpl : p < b.length := by omega
  refine ⟨V.u8 (b[p]?.getD 0), ⟨by show (0:Int) ≤ (p : Int); omega, gp _ _ rfl hpl⟩, ?_⟩
  refine ⟨fun c3 => ?_, fun c3 => ?_⟩
  · replace c3 : 8 < (b[p]?.getD 0).toNat := by
      have : (8:Int) < ((b[p]?.getD 0).toNat : Int) := of_decide_eq_true c3
      omega
    exact ⟨key (0, 0, 6) (by unfold getNum; rw [if_neg c1, if_neg c2, if_pos c3]), rfl⟩
  replace c3 : ¬ 8 < (b[p]?.getD 0).toNat := by
    have : ¬ (8:Int) < ((b[p]?.getD 0).toNat : Int) := of_decide_eq_false c3
    omega
  refine ⟨by show inI64 ((p : Int) + 1); unfold inI64; omega, ?_⟩
  refine ⟨V.u8 (b[p]?.getD 0), ⟨by show (0:Int) ≤ (p : Int); omega, gp _ _ rfl hpl⟩, ?_⟩
  refine ⟨(c : Int), by rw [hc]; exact wrapI64 (by omega) (by omega), ?_⟩
  refine ⟨by show inI64 ((p : Int) + 1 + c); unfold inI64; omega, ?_⟩
  refine ⟨by show inI64 ((p : Int) + 1); unfold inI64; omega, ?_⟩
  refine ⟨fun hg => by show inI64 ((p : Int) + 1); unfold inI64; omega, ?_⟩
  refine ⟨fun hg => by show inI64 ((p : Int) + 1); unfold inI64; omega, ?_⟩
  refine ⟨V.u8 (b[p + 1]?.getD 0), fun hg => ?_, ?_⟩
  · have hg' : ((p : Int) + 1 + c > (p : Int) + 1) ∧ ((p : Int) + 1 < ((V.bytes b).length : Int)) := by simpa using hg
    exact ⟨by show (0:Int) ≤ (p : Int) + 1; omega, gp _ _ (by omega) (by omega)⟩
  have e4 : ∀ x : Bool, x = (((decide ((p : Int) + 1 < (p : Int) + 1 + c)) && decide ((p : Int) + 1 < ((V.bytes b).length : Int))) && (((b[p + 1]?.getD 0).toNat : Int) == 0)) →
      (x = true ↔ (0 < (b[p]?.getD 0).toNat ∧ p + 1 < b.length ∧ (b[p + 1]?.getD 0).toNat = 0)) := by
    rintro x rfl
    rw [← hc]
    simp only [Bool.and_eq_true, decide_eq_true_eq, beq_iff_eq, hlen, and_assoc]
    omega
  refine ⟨fun c4 => ?_, fun c4 => ?_⟩
  · replace c4 := (e4 _ (by
      cases decide ((p : Int) + 1 < (p : Int) + 1 + c) <;> cases decide ((p : Int) + 1 < ((V.bytes b).length : Int)) <;> rfl)).1 c4
    exact ⟨key (0, 0, 6) (by unfold getNum; rw [if_neg c1, if_neg c2, if_neg c3, if_pos c4]), rfl⟩
  replace c4 := fun hx => Bool.false_ne_true (c4.symm.trans ((e4 _ (by
      cases decide ((p : Int) + 1 < (p : Int) + 1 + c) <;> cases decide ((p : Int) + 1 < ((V.bytes b).length : Int)) <;> rfl)).2 hx))
  refine ⟨fun c5 => ?_, fun c5 => ?_⟩
  · replace c5 : b.length < p + 1 + (b[p]?.getD 0).toNat := by
      have : ((V.bytes b).length : Int) < (p : Int) + 1 + c := of_decide_eq_true c5
      omega
    exact ⟨key (0, 0, 8) (by unfold getNum; rw [if_neg c1, if_neg c2, if_neg c3, if_neg c4, if_pos c5]), rfl⟩
  replace c5 : ¬ b.length < p + 1 + (b[p]?.getD 0).toNat := by
    have : ¬ ((V.bytes b).length : Int) < (p : Int) + 1 + c := of_decide_eq_false c5
    omega
  refine ⟨by show inI64 ((p : Int) + 1); unfold inI64; omega, ?_⟩
  refine ⟨⟨by show (0:Int) ≤ (p : Int) + 1 + c; omega, by show (p : Int) + 1 + c ≤ ((V.bytes b).length : Int); omega⟩, ?_⟩
  refine ⟨⟨by show (0:Int) ≤ (p : Int) + 1; omega, by show (p : Int) + 1 ≤ (((p : Int) + 1 + c).toNat : Int); omega⟩, ?_⟩
  have hs : ((V.bytes b).take ((p : Int) + 1 + c).toNat).drop ((p : Int) + 1).toNat = V.bytes s := by
    have e1 : ((p : Int) + 1 + c).toNat = p + 1 + c := by omega
    have e2 : ((p : Int) + 1).toNat = p + 1 := by omega
    have e3 : p + 1 + c - (p + 1) = c := by omega
    rw [bytes_take_drop, e1, e2, List.drop_take, e3, hl]
  have hsl : s.length = c := by rw [hl]; simp; omega
  have hsb := bytes_length s
  refine ⟨0, [4, 5, 66, 67, 68], 0, fun m xs l h2 => ∃ (k : Nat) (X N L : Int) (S : List V), xs = [.v (.lit (.int .u64 X)), .v (V.i N), .v (.sl 1 S), .v (V.i L), .v (V.i k)] ∧ l = [] ∧ h2 = h ∧ m + k = c ∧ X = beV (s.take k) ∧ N = (p : Int) + 1 + c ∧ L = s.length ∧ S = V.bytes s,
    ⟨c, 0, _, _, _, _, rfl, rfl, rfl, by show c + 0 = c; omega, rfl, rfl, by show ((((V.bytes b).take ((p : Int) + 1 + c).toNat).drop ((p : Int) + 1).toNat).length : Int) = _; rw [hs, hsb], hs⟩, ?_⟩
  rintro m xs l h2 ⟨k, X, N, L, S, rfl, rfl, rfl, hk, rfl, rfl, rfl, rfl⟩
  replace hk : (m : Nat) + k = c := hk
  refine ⟨fun c6 => ?_, fun c6 => ?_⟩
  · replace c6 : (k : Int) < (s.length : Int) := of_decide_eq_true c6
    have hks : k < s.length := by omega
    have htk : s.take (k + 1) = s.take k ++ [s[k]?.getD 0] := by
      rw [List.take_add_one]; simp [hks]
    have hlt := beV_lt (s.take (k + 1))
    have h256 : (256:Nat) ^ (s.take (k + 1)).length ≤ 256 ^ 8 := Nat.pow_le_pow_right (by decide) (by simp; omega)
    have e256 : 256 ^ 8 = 2 ^ 64 := by decide
    have hx := (s[k]?.getD 0).toNat_lt
    replace hlt := Nat.lt_of_lt_of_le hlt h256
    rw [htk, beV_snoc, e256] at hlt
    refine ⟨V.u8 (s[k]?.getD 0), ⟨by show (0:Int) ≤ (k : Int); omega, ?_⟩, ?_⟩
    · show (V.bytes s)[((k : Nat) : Int).toNat]? = _
      rw [Int.toNat_natCast]; exact bytes_get s k hks
    refine ⟨by show (0:Int) ≤ 8; omega, ?_⟩
    refine ⟨((s[k]?.getD 0).toNat : Int), wrapU64 (by omega) (by omega), ?_⟩
    refine ⟨by show inI64 ((k : Int) + 1); unfold inI64; omega, ?_⟩
    refine ⟨m - 1, by show (m : Nat) - 1 < m; omega, k + 1, _, _, _, _, rfl, rfl, rfl, by show (m : Nat) - 1 + (k + 1) = c; omega, ?_, rfl, rfl, rfl⟩
    have hsh : IntKind.u64.wrap (((beV (s.take k) : Nat) : Int) * 2 ^ (min (Int.toNat 8) IntKind.u64.bits)) = ((beV (s.take k) * 256 : Nat) : Int) := by
      have : (((beV (s.take k) : Nat) : Int) * 2 ^ (min (Int.toNat 8) IntKind.u64.bits)) = ((beV (s.take k) * 256 : Nat) : Int) := by
        show ((beV (s.take k) : Nat) : Int) * 2 ^ 8 = _
        omega
      rw [this]; exact wrapU64 (by omega) (by omega)
    have hor := or_u64 (beV (s.take k)) (s[k]?.getD 0).toNat hx (by omega)
    rw [← hsh, ← beV_snoc, ← htk] at hor
    exact hor
  · replace c6 : ¬ (k : Int) < (s.length : Int) := of_decide_eq_false c6
    refine ⟨?_, rfl⟩
    have hk2 : s.take k = s := List.take_of_length_le (by omega)
    have hg : getNum b p = (beV s, p + 1 + c, 0) := by
      unfold getNum; rw [if_neg c1, if_neg c2, if_neg c3, if_neg c4, if_neg c5, ← hc, ← hl]
    rw [hg]
    show A.v (.tup [.lit (.int .u64 (beV (s.take k))), V.i ((p : Int) + 1 + c), V.i 0]) = _
    rw [hk2]; rfl
end Go.AI

namespace Go.AI
open Go.Proofs Go
variable (W0 : World)
set_option maxRecDepth 20000
set_option maxHeartbeats 1000000

theorem c_number (b : List UInt8) (v : Int) (h0 : 0 ≤ v) (h1 : v < 2 ^ 63) (hb : b.length ≤ 2 ^ 45) (h : H) :
    ACalls Tryz.prog W0 104 [.v (.sl 1 (V.bytes b)), .v (V.i v)] h fun r h' => r = .own 1 (V.bytes (b ++ numB v.toNat)) ∧ h' = h := by
  refine ACalls.of (C := CO [] fun _ => ([], [], 0)) (cOkO _ _) hP (fn := Tryz.f104) (by kernel_rfl) (by kernel_rfl) ?_
  refine ⟨(v.toNat : Int), by show IntKind.u64.wrap v = _; rw [wrapU64 h0 (by omega)]; omega, ?_⟩
  refine (c_Num W0 b v.toNat (by omega) hb _).mono ?_
  rintro _ _ ⟨rfl, rfl⟩
  exact ⟨rfl, rfl⟩

theorem c_ptext (b : List UInt8) (s : Str) (hb : (b ++ encText s).length ≤ 2 ^ 45) (h : H) :
    ACalls Tryz.prog W0 105 [.v (.sl 1 (V.bytes b)), .v (V.s s)] h fun r h' => r = .own 1 (V.bytes (b ++ encText s)) ∧ h' = h := by
  have hl : b.length + (nby s.size + 1) + s.size ≤ 2 ^ 45 := by
    have := str_len s
    simp only [encText, List.length_append, numB_length, this] at hb
    omega
  have hs : (V.bytes (b ++ numB s.size)).length = b.length + (nby s.size + 1) := by simp [bytes_length, numB_length]
  have hd : (V.bytes s.data.toList).length = s.size := by rw [bytes_length, str_len]
  refine ACalls.of (C := CO [] fun _ => ([], [], 0)) (cOkO _ _) hP (fn := Tryz.f105) (by kernel_rfl) (by kernel_rfl) ?_
  refine (c_number W0 b (s.size : Int) (by omega) (by omega) (by omega) _).mono ?_
  rintro _ _ ⟨rfl, rfl⟩
  refine ⟨?_, V.bytes (b ++ encText s), ?_, ?_⟩
  · show ((V.bytes (b ++ numB s.size)).length + (V.bytes s.data.toList).length) * 1 ≤ 70368744177664
    rw [hs, hd]; omega
  · show V.bytes (b ++ numB s.size) ++ V.bytes s.data.toList = _
    rw [bytes_append, encText, List.append_assoc]
  exact ⟨rfl, rfl⟩

theorem c_cell (b : List UInt8) (c : Cell) (hc : c.pos) (hb : (b ++ encCell c).length ≤ 2 ^ 45) (h : H) :
    ACalls Tryz.prog W0 113 [.v (.sl 1 (V.bytes b)), .v (.agg c.v)] h fun r h' => r = .own 1 (V.bytes (b ++ encCell c)) ∧ h' = h := by
  obtain ⟨val, dead, at_, end_⟩ := c
  obtain ⟨⟨ha0, ha1⟩, ⟨he0, he1⟩⟩ := hc
  replace ha0 : 0 ≤ at_ := ha0
  replace ha1 : at_ ≤ 1099511627776 := ha1
  replace he0 : 0 ≤ end_ := he0
  replace he1 : end_ ≤ 1099511627776 := he1
  have hbl : b.length ≤ 2 ^ 45 := by rw [List.length_append] at hb; omega
  have key : ∀ e : List UInt8, encCell ⟨val, dead, at_, end_⟩ = e → A.own 1 (V.bytes (b ++ e)) = A.own 1 (V.bytes (b ++ encCell ⟨val, dead, at_, end_⟩)) := by rintro e rfl; rfl
  have hn := bytes_length (b ++ numB at_.toNat)
  have hnl : (b ++ numB at_.toNat).length ≤ (b ++ encCell ⟨val, dead, at_, end_⟩).length := by
    unfold encCell; split
    · exact Nat.le_refl _
    · split <;> simp <;> omega
  refine ACalls.of (C := CO [13, 17, 20] fun i => match i with | 6 => ([0, 3, 4, 6, 7, 1, 2, 5, 8, 9], [], 1) | _ => ([], [], 0)) (cOkO _ _) hP (fn := Tryz.f113) (by kernel_rfl) (by kernel_rfl) ?_
  refine (c_number W0 b at_ ha0 (by omega) hbl _).mono ?_
  rintro _ _ ⟨rfl, rfl⟩
  refine ⟨fun c2 => ?_, fun c2 => ?_⟩
  · replace c2 : at_ = 0 := by simpa using c2
    exact ⟨key _ (by simp [encCell, c2]), rfl⟩
  replace c2 : ¬ (at_ = 0) := by simpa using c2
  refine ⟨fun c3 => ?_, fun c3 => ?_⟩
  · replace c3 : dead = true := c3
    refine ⟨?_, V.bytes (b ++ numB at_.toNat ++ [1]), ?_, ?_⟩
    · show ((V.bytes (b ++ numB at_.toNat)).length + 1) * 1 ≤ 70368744177664
      omega
    · exact bytes_append _ [1]
    refine ⟨?_, rfl⟩
    show A.own 1 (V.bytes (b ++ numB at_.toNat ++ [1])) = _
    rw [List.append_assoc]
    exact key _ (by simp [encCell, c2, c3])
  replace c3 : dead = false := c3
  have henc : encCell ⟨val, dead, at_, end_⟩ = numB at_.toNat ++ [0] ++ encText val ++ numB end_.toNat := by simp [encCell, c2, c3]
  refine ⟨[], fun _ => false, ?_⟩
  refine ⟨?_, V.bytes (b ++ numB at_.toNat ++ [0]), ?_, ?_⟩
  · show ((V.bytes (b ++ numB at_.toNat)).length + 1) * 1 ≤ 70368744177664
    omega
  · exact bytes_append _ [0]
  rw [henc] at hb
  refine (c_ptext W0 (b ++ numB at_.toNat ++ [0]) val (by simp at hb ⊢; omega) _).mono ?_
  rintro _ _ ⟨rfl, rfl⟩
  refine (c_number W0 (b ++ numB at_.toNat ++ [0] ++ encText val) end_ he0 (by omega) (by simp at hb ⊢; omega) _).mono ?_
  rintro _ _ ⟨rfl, rfl⟩
  refine ⟨?_, rfl⟩
  show A.own 1 (V.bytes (b ++ numB at_.toNat ++ [0] ++ encText val ++ numB end_.toNat)) = _
  have : b ++ numB at_.toNat ++ [0] ++ encText val ++ numB end_.toNat = b ++ (numB at_.toNat ++ [0] ++ encText val ++ numB end_.toNat) := by simp
  rw [this]
  exact key _ henc
end Go.AI

namespace Go.AI
open Go.Proofs Go
variable (W0 : World)
set_option maxRecDepth 20000
set_option maxHeartbeats 1000000

theorem c_row (b : List UInt8) (r : Row) (hr : r.pos) (hb : (b ++ encRow r).length ≤ 2 ^ 45) (hk : r.cols.length ≤ 2 ^ 45) (h : H) :
    ACalls Tryz.prog W0 106 [.v (.sl 1 (V.bytes b)), .v (.agg r.v)] h fun x h' => x = .own 1 (V.bytes (b ++ encRow r)) ∧ h' = h := by
  obtain ⟨key, live, gone, shade, cols⟩ := r
  obtain ⟨hl, ⟨hg0, hg1⟩, ⟨hs0, hs1⟩, hc⟩ := hr
  replace hg0 : 0 ≤ gone := hg0
  replace hg1 : gone ≤ 1099511627776 := hg1
  replace hs0 : 0 ≤ shade := hs0
  replace hs1 : shade ≤ 1099511627776 := hs1
  replace hc : ∀ c ∈ cols, c.cell.pos := hc
  replace hl : live.pos := hl
  replace hk : cols.length ≤ 2 ^ 45 := hk
  have henc : b ++ encRow ⟨key, live, gone, shade, cols⟩ = b ++ encText key ++ encCell live ++ numB gone.toNat ++ numB shade.toNat ++ numB cols.length ++ cols.flatMap encCol := by simp [encRow]
  have hcl : (cols.map fun c => V.agg c.v).length = cols.length := List.length_map ..
  rw [henc] at hb ⊢
  have hlen := hb
  simp only [List.length_append] at hlen
  refine ACalls.of (C := CO [40] fun i => match i with | 1 => ([0, 1, 2, 4, 5, 7, 8, 10, 11, 3, 6, 9, 12, 13], [], 1) | 6 => ([0, 1, 2, 4, 5, 3, 6, 7], [], 1) | _ => ([], [], 0)) (cOkO _ _) hP (fn := Tryz.f106) (by kernel_rfl) (by kernel_rfl) ?_
  refine ⟨[], fun _ => false, ?_⟩
  refine (c_ptext W0 b key (by simp only [List.length_append]; omega) _).mono ?_
  rintro _ _ ⟨rfl, rfl⟩
  refine (c_cell W0 _ live hl (by simp only [List.length_append]; omega) _).mono ?_
  rintro _ _ ⟨rfl, rfl⟩
  refine (c_number W0 _ gone hg0 (by omega) (by simp only [List.length_append]; omega) _).mono ?_
  rintro _ _ ⟨rfl, rfl⟩
  refine (c_number W0 _ shade hs0 (by omega) (by simp only [List.length_append]; omega) _).mono ?_
  rintro _ _ ⟨rfl, rfl⟩
  refine (c_number W0 (b ++ encText key ++ encCell live ++ numB gone.toNat ++ numB shade.toNat) ((cols.map fun c => V.agg c.v).length : Int) (by omega) (by omega) (by simp only [List.length_append]; omega) _).mono ?_
  rintro _ _ ⟨rfl, rfl⟩
  refine ⟨0, [0, 26, 27, 28], 0, fun m xs l h2 => l = [] ∧ ∃ (d r : List Col) (acc : List UInt8) (k n : Int), xs = [.own 1 (V.bytes acc), .v (.sl 5 (cols.map fun c => .agg c.v)), .v (V.i n), .v (V.i k)] ∧ h2 = h ∧ m = r.length ∧ cols = d ++ r ∧ k = d.length ∧ n = cols.length ∧
      acc ++ r.flatMap encCol = b ++ encText key ++ encCell live ++ numB gone.toNat ++ numB shade.toNat ++ numB cols.length ++ cols.flatMap encCol,
    ⟨cols.length, rfl, [], cols, _, _, _, rfl, rfl, rfl, rfl, rfl, by rw [← hcl], by rw [hcl, Int.toNat_natCast]⟩, ?_⟩
  rintro m xs l h2 ⟨rfl, d, r, acc, k, n, rfl, rfl, rfl, hd, rfl, rfl, hacc⟩
  have hdl : cols.length = d.length + r.length := by rw [hd, List.length_append]
  refine ⟨fun c6 => ?_, fun c6 => ?_⟩
  · replace c6 : (d.length : Int) < (cols.length : Int) := of_decide_eq_true c6
    cases r with
    | nil => exact absurd hdl (by simp only [List.length_nil]; omega)
    | cons c r =>
    have hget : (cols.map fun c => V.agg c.v)[d.length]? = some (.agg c.v) := by rw [hd]; exact map_get _ d c r
    have hlt := congrArg List.length hacc
    simp only [List.length_append, List.flatMap_cons] at hlt hdl
    have hce : (encCol c).length = (encText c.name).length + (encCell c.cell).length := by simp [encCol]
    refine ⟨.agg c.v, ⟨by show (0:Int) ≤ (d.length : Int); omega, ?_⟩, ?_⟩
    · show (cols.map fun c => V.agg c.v)[((d.length : Nat) : Int).toNat]? = _
      rw [Int.toNat_natCast]; exact hget
    refine ⟨[], fun _ => false, ?_⟩
    refine (c_ptext W0 acc c.name (by simp only [List.length_append]; omega) _).mono ?_
    rintro _ _ ⟨rfl, rfl⟩
    refine (c_cell W0 _ c.cell (hc c (by rw [hd]; simp)) (by simp only [List.length_append]; omega) _).mono ?_
    rintro _ _ ⟨rfl, rfl⟩
    refine ⟨by show inI64 ((d.length : Int) + 1); unfold inI64; omega, ?_⟩
    refine ⟨r.length, by show r.length < r.length + 1; omega, rfl, d ++ [c], r, _, _, _, rfl, rfl, rfl, by rw [hd]; simp, by simp, rfl, ?_⟩
    rw [← hacc]; simp [encCol]
  · replace c6 : ¬ (d.length : Int) < (cols.length : Int) := of_decide_eq_false c6
    cases r with
    | cons c r => exact absurd hdl (by simp only [List.length_cons]; omega)
    | nil =>
    refine ⟨?_, rfl⟩
    rw [← hacc]; simp only [List.flatMap_nil, List.append_nil]; rfl
end Go.AI

namespace Go.AI
open Go.Proofs Go
variable (W0 : World)
set_option maxRecDepth 20000
set_option maxHeartbeats 1000000

theorem c_whole (p : Part) (hr : p.pos) (hb : (encPart p).length ≤ 2 ^ 45) (hk : p.rows.length ≤ 2 ^ 45) (hk2 : ∀ r ∈ p.rows, r.cols.length ≤ 2 ^ 45) (h : H) :
    ACalls Tryz.prog W0 101 [.v (.agg p.v)] h fun x h' => x = .own 1 (V.bytes (encPart p)) ∧ h' = h := by
  obtain ⟨key, gone, rows⟩ := p
  obtain ⟨⟨hg0, hg1⟩, hc⟩ := hr
  replace hg0 : 0 ≤ gone := hg0
  replace hg1 : gone ≤ 1099511627776 := hg1
  replace hc : ∀ c ∈ rows, c.pos := hc
  replace hk : rows.length ≤ 2 ^ 45 := hk
  replace hk2 : ∀ r ∈ rows, r.cols.length ≤ 2 ^ 45 := hk2
  have henc : encPart ⟨key, gone, rows⟩ = [] ++ encText key ++ numB gone.toNat ++ numB rows.length ++ rows.flatMap encRow := by simp [encPart]
  have hcl : (rows.map fun c => V.agg c.v).length = rows.length := List.length_map ..
  rw [henc] at hb ⊢
  have hlen := hb
  simp only [List.length_append] at hlen
  refine ACalls.of (C := CO [27] fun i => match i with | 1 => ([0, 1, 3, 4, 6, 7, 8, 2, 5, 9, 10], [], 1) | _ => ([], [], 0)) (cOkO _ _) hP (fn := Tryz.f101) (by kernel_rfl) (by kernel_rfl) ?_
  refine ⟨[], fun _ => false, ?_⟩
  refine (c_ptext W0 [] key (by simp only [List.length_append]; omega) _).mono ?_
  rintro _ _ ⟨rfl, rfl⟩
  refine (c_number W0 ([] ++ encText key) gone hg0 (by omega) (by simp only [List.length_append]; omega) _).mono ?_
  rintro _ _ ⟨rfl, rfl⟩
  refine (c_number W0 ([] ++ encText key ++ numB gone.toNat) ((rows.map fun c => V.agg c.v).length : Int) (by omega) (by omega) (by simp only [List.length_append]; omega) _).mono ?_
  rintro _ _ ⟨rfl, rfl⟩
  refine ⟨0, [3, 17, 18, 19], 0, fun m xs l h2 => l = [] ∧ ∃ (d r : List Row) (acc : List UInt8) (k n : Int), xs = [.own 1 (V.bytes acc), .v (.sl 8 (rows.map fun c => .agg c.v)), .v (V.i n), .v (V.i k)] ∧ h2 = h ∧ m = r.length ∧ rows = d ++ r ∧ k = d.length ∧ n = rows.length ∧
      acc ++ r.flatMap encRow = [] ++ encText key ++ numB gone.toNat ++ numB rows.length ++ rows.flatMap encRow,
    ⟨rows.length, rfl, [], rows, _, _, _, rfl, rfl, rfl, rfl, rfl, by rw [← hcl], by rw [hcl, Int.toNat_natCast]⟩, ?_⟩
  rintro m xs l h2 ⟨rfl, d, r, acc, k, n, rfl, rfl, rfl, hd, rfl, rfl, hacc⟩
  have hdl : rows.length = d.length + r.length := by rw [hd, List.length_append]
  refine ⟨fun c6 => ?_, fun c6 => ?_⟩
  · replace c6 : (d.length : Int) < (rows.length : Int) := of_decide_eq_true c6
    cases r with
    | nil => exact absurd hdl (by simp only [List.length_nil]; omega)
    | cons c r =>
    have hget : (rows.map fun c => V.agg c.v)[d.length]? = some (.agg c.v) := by rw [hd]; exact map_get _ d c r
    have hlt := congrArg List.length hacc
    simp only [List.length_append, List.flatMap_cons] at hlt hdl
    have hm : c ∈ rows := by rw [hd]; simp
    refine ⟨.agg c.v, ⟨by show (0:Int) ≤ (d.length : Int); omega, ?_⟩, ?_⟩
    · show (rows.map fun c => V.agg c.v)[((d.length : Nat) : Int).toNat]? = _
      rw [Int.toNat_natCast]; exact hget
    refine (c_row W0 acc c (hc c hm) (by simp only [List.length_append]; omega) (hk2 c hm) _).mono ?_
    rintro _ _ ⟨rfl, rfl⟩
    refine ⟨by show inI64 ((d.length : Int) + 1); unfold inI64; omega, ?_⟩
    refine ⟨r.length, by show r.length < r.length + 1; omega, rfl, d ++ [c], r, _, _, _, rfl, rfl, rfl, by rw [hd]; simp, by simp, rfl, ?_⟩
    rw [← hacc]; simp
  · replace c6 : ¬ (d.length : Int) < (rows.length : Int) := of_decide_eq_false c6
    cases r with
    | cons c r => exact absurd hdl (by simp only [List.length_cons]; omega)
    | nil =>
    refine ⟨?_, rfl⟩
    rw [← hacc]; simp only [List.flatMap_nil, List.append_nil]; rfl
end Go.AI

namespace Go.AI
open Go.Proofs Go
variable (W0 : World)
set_option maxRecDepth 20000
set_option maxHeartbeats 1000000

theorem c_cstamp (v : Int) (h : H) : ACalls Tryz.prog W0 63 [.v (V.i v)] h fun r h' => r = .v (V.b (stampB v)) ∧ h' = h := by
  refine ACalls.of (C := CO [] fun _ => ([], [], 0)) (cOkO _ _) hP (fn := Tryz.f63) (by kernel_rfl) (by kernel_rfl) ?_
  exact ⟨rfl, rfl⟩
theorem c_rstamp (v : Int) (h : H) : ACalls Tryz.prog W0 56 [.v (V.i v)] h fun r h' => r = .v (V.b (stampB v)) ∧ h' = h := by
  refine ACalls.of (C := CO [] fun _ => ([], [], 0)) (cOkO _ _) hP (fn := Tryz.f56) (by kernel_rfl) (by kernel_rfl) ?_
  exact ⟨rfl, rfl⟩
theorem c_letter (v : Int) (h : H) : ACalls Tryz.prog W0 44 [.v (.lit (.int .i32 v))] h fun r h' => r = .v (V.b (isLetter v)) ∧ h' = h := by
  refine ACalls.of (C := CO [] fun _ => ([], [], 0)) (cOkO _ _) hP (fn := Tryz.f44) (by kernel_rfl) (by kernel_rfl) ?_
  exact ⟨rfl, rfl⟩

theorem c_checkCell (c : Cell) (h : H) : ACalls Tryz.prog W0 55 [.v (.agg c.v)] h fun r h' => r = .v (V.b (checkCell c)) ∧ h' = h := by
  obtain ⟨val, dead, at_, end_⟩ := c
  have key : ∀ b : Bool, b = checkCell ⟨val, dead, at_, end_⟩ → A.v (V.b b) = A.v (V.b (checkCell ⟨val, dead, at_, end_⟩)) := by rintro b rfl; rfl
  refine ACalls.of (C := CO [] fun _ => ([], [], 0)) (cOkO _ _) hP (fn := Tryz.f55) (by kernel_rfl) (by kernel_rfl) ?_
  refine (c_cstamp W0 at_ _).mono ?_
  rintro _ _ ⟨rfl, rfl⟩
  refine ⟨rfl, V.b (stampB end_), fun hg => (c_cstamp W0 end_ _), ?_⟩
  refine ⟨fun c3 => ?_, fun c3 => ?_⟩
  · replace c3 : (stampB at_ && stampB end_) = false := by
      have : (bif !stampB at_ then true else !stampB end_) = true := c3
      revert this; cases stampB at_ <;> cases stampB end_ <;> decide
    exact ⟨key false (by unfold checkCell; rw [if_neg (by rw [c3]; decide)]), rfl⟩
  replace c3 : (stampB at_ && stampB end_) = true := by
    have : (bif !stampB at_ then true else !stampB end_) = false := c3
    revert this; cases stampB at_ <;> cases stampB end_ <;> decide
  refine ⟨fun c4 => ?_, fun c4 => ?_⟩
  · replace c4 : at_ = 0 := by simpa using c4
    refine ⟨key _ ?_, rfl⟩
    unfold checkCell
    rw [if_pos c3, if_pos c4]
    show (decide (val = ⟨#[]⟩) && ((dead == false) && (decide (at_ = 0) && (decide (end_ = 0) && true)))) = _
    rw [c4]; cases dead <;> simp
  replace c4 : ¬ at_ = 0 := by simpa using c4
  refine ⟨fun c5 => ?_, fun c5 => ?_⟩
  · replace c5 : dead = true := c5
    refine ⟨key _ ?_, rfl⟩
    unfold checkCell
    rw [if_pos c3, if_neg c4, if_pos c5]
    show (decide (val = ⟨#[]⟩) && ((dead == true) && (decide (at_ = at_) && (decide (end_ = 0) && true)))) = _
    rw [c5]; simp
  replace c5 : dead = false := c5
  refine ⟨key _ ?_, rfl⟩
  unfold checkCell
  rw [if_pos c3, if_neg c4, if_neg (by show ¬ dead = true; rw [c5]; exact Bool.false_ne_true)]
  show decide ((val.size : Int) ≤ 100) = decide (val.size ≤ 100)
  by_cases hh : val.size ≤ 100
  · rw [decide_eq_true hh, decide_eq_true (by omega)]
  · rw [decide_eq_false hh, decide_eq_false (by omega)]
end Go.AI

namespace Go.AI
open Go.Proofs Go
variable (W0 : World)
set_option maxRecDepth 20000
set_option maxHeartbeats 1000000

theorem nameFrom_succ (s : Str) (n i : Nat) : nameFrom s (n + 1) i = if i < s.size then
      (if ((isLetter ((Utf8.decode s i).1 : Int) || (decide (48 ≤ ((Utf8.decode s i).1 : Int)) && decide (((Utf8.decode s i).1 : Int) ≤ 57) && decide (0 < i))) && isRight s i (Utf8.decode s i).1) = true then nameFrom s n (i + (Utf8.decode s i).2) else false)
    else true := rfl
/-- The library decodes the code point that a text begins with. -/
def DecC : Prop := ∀ (s : Str) (h : H), ACalls Tryz.prog W0 54 [.v (V.s s)] h fun r h' => r = .v (.tup [.lit (.int .i32 (decG s).1), V.i (decG s).2]) ∧ h' = h

theorem c_right (hD : DecC W0) (s : Str) (i : Nat) (hi : i ≤ s.size) (r : Int) (h : H) : ACalls Tryz.prog W0 45 [.v (V.s s), .v (V.i i), .v (.lit (.int .i32 r))] h fun x h' => x = .v (V.b (isRight s i r)) ∧ h' = h := by
  have key : ∀ b : Bool, b = isRight s i r → A.v (V.b b) = A.v (V.b (isRight s i r)) := by rintro b rfl; rfl
  refine ACalls.of (C := CO [] fun _ => ([], [], 0)) (cOkO _ _) hP (fn := Tryz.f45) (by kernel_rfl) (by kernel_rfl) ?_
  refine ⟨fun c1 => ?_, fun c1 => ?_⟩
  · replace c1 : ¬ r = 65533 := by simpa using c1
    exact ⟨key true (by unfold isRight; rw [if_neg c1]), rfl⟩
  replace c1 : r = 65533 := by simpa using c1
  refine ⟨⟨by show (0:Int) ≤ (i : Int); omega, by show (i : Int) ≤ (s.size : Int); omega⟩, ?_⟩
  refine (hD (s.extract i s.size) _).mono ?_
  rintro _ _ ⟨rfl, rfl⟩
  refine ⟨key _ ?_, rfl⟩
  unfold isRight; rw [if_pos c1]
  show decide ((1:Int) < ((decG (s.extract i s.size)).2 : Int)) = _
  by_cases hh : 1 < (decG (s.extract i s.size)).2
  · rw [decide_eq_true hh, decide_eq_true (by omega)]
  · rw [decide_eq_false hh, decide_eq_false (by omega)]

theorem c_Name (hD : DecC W0) (s : Str) (hs : s.size ≤ 2 ^ 40) (h : H) : ACalls Tryz.prog W0 32 [.v (V.s s)] h fun r h' => r = .v (V.b (isName s)) ∧ h' = h := by
  have key : ∀ b : Bool, b = isName s → A.v (V.b b) = A.v (V.b (isName s)) := by rintro b rfl; rfl
  refine ACalls.of (C := CO [] fun _ => ([], [], 0)) (cOkO _ _) hP (fn := Tryz.f32) (by kernel_rfl) (by kernel_rfl) ?_
  refine ⟨0, [0, 7], 1, fun m xs l h2 => ∃ pos : Nat, xs = [.v (V.s s), .lp 0 0] ∧ l = [.iter s pos] ∧ h2 = h ∧ nameFrom s m pos = nameFrom s (s.size + 1) 0 ∧ s.size < m + pos, ⟨s.size + 1, 0, rfl, rfl, rfl, rfl, by show s.size < s.size + 1 + 0; omega⟩, ?_⟩
  rintro m xs l h2 ⟨pos, rfl, rfl, rfl, hf, hm⟩
  replace hm : s.size < (m : Nat) + pos := hm
  refine ⟨rfl, fun hlt => ?_, fun hge => ?_⟩
  · refine ⟨fun _ => ?_, fun c => nomatch c⟩
    cases m with
    | zero => omega
    | succ m =>
    have hw := Lib.width_pos s pos
    rw [nameFrom_succ, if_pos hlt] at hf
    refine (c_letter W0 ((Utf8.decode s pos).1 : Int) _).mono ?_
    rintro _ _ ⟨rfl, rfl⟩
    refine ⟨rfl, V.b (isRight s pos (Utf8.decode s pos).1), fun hg => (c_right W0 hD s pos (by omega) _ _), ?_⟩
    refine ⟨fun c4 => ?_, fun c4 => ?_⟩
    · refine ⟨key false ?_, rfl⟩
      have hc : ((isLetter ((Utf8.decode s pos).1 : Int) || (decide (48 ≤ ((Utf8.decode s pos).1 : Int)) && decide (((Utf8.decode s pos).1 : Int) ≤ 57) && decide (0 < pos))) && isRight s pos (Utf8.decode s pos).1) = false := by
        have c5 : (bif (bif !isLetter ((Utf8.decode s pos).1 : Int) then !(bif (bif decide (48 ≤ ((Utf8.decode s pos).1 : Int)) then decide (((Utf8.decode s pos).1 : Int) ≤ 57) else false) then decide ((0:Int) < (pos : Int)) else false) else false) then true else !isRight s pos (Utf8.decode s pos).1) = true := c4
        have hp : decide ((0:Int) < (pos : Int)) = decide (0 < pos) := by
          by_cases hh : 0 < pos
          · rw [decide_eq_true hh, decide_eq_true (by omega)]
          · rw [decide_eq_false hh, decide_eq_false (by omega)]
        rw [hp] at c5
        revert c5
        cases isLetter ((Utf8.decode s pos).1 : Int) <;> cases decide (48 ≤ ((Utf8.decode s pos).1 : Int)) <;> cases decide (((Utf8.decode s pos).1 : Int) ≤ 57) <;> cases decide (0 < pos) <;> cases isRight s pos (Utf8.decode s pos).1 <;> decide
      unfold isName
      rw [← hf]
      rw [hc]; rfl
    · have hc : ((isLetter ((Utf8.decode s pos).1 : Int) || (decide (48 ≤ ((Utf8.decode s pos).1 : Int)) && decide (((Utf8.decode s pos).1 : Int) ≤ 57) && decide (0 < pos))) && isRight s pos (Utf8.decode s pos).1) = true := by
        have c5 : (bif (bif !isLetter ((Utf8.decode s pos).1 : Int) then !(bif (bif decide (48 ≤ ((Utf8.decode s pos).1 : Int)) then decide (((Utf8.decode s pos).1 : Int) ≤ 57) else false) then decide ((0:Int) < (pos : Int)) else false) else false) then true else !isRight s pos (Utf8.decode s pos).1) = false := c4
        have hp : decide ((0:Int) < (pos : Int)) = decide (0 < pos) := by
          by_cases hh : 0 < pos
          · rw [decide_eq_true hh, decide_eq_true (by omega)]
          · rw [decide_eq_false hh, decide_eq_false (by omega)]
        rw [hp] at c5
        revert c5
        cases isLetter ((Utf8.decode s pos).1 : Int) <;> cases decide (48 ≤ ((Utf8.decode s pos).1 : Int)) <;> cases decide (((Utf8.decode s pos).1 : Int) ≤ 57) <;> cases decide (0 < pos) <;> cases isRight s pos (Utf8.decode s pos).1 <;> decide
      rw [hc] at hf
      refine ⟨m, by show m < m + 1; omega, pos + (Utf8.decode s pos).2, rfl, rfl, rfl, hf, by show s.size < m + (pos + (Utf8.decode s pos).2); omega⟩
  · refine ⟨fun c => (nomatch c), fun _ => ?_⟩
    have hn : nameFrom s (s.size + 1) 0 = true := by
      rw [← hf]
      cases m with
      | zero => rfl
      | succ m => rw [nameFrom_succ, if_neg (by omega)]
    refine ⟨key _ ?_, rfl⟩
    unfold isName
    rw [hn]
    show (bif !decide (s = ⟨#[]⟩) then decide ((s.size : Int) ≤ 100) else false) = _
    have hp : decide ((s.size : Int) ≤ 100) = decide (s.size ≤ 100) := by
      by_cases hh : s.size ≤ 100
      · rw [decide_eq_true hh, decide_eq_true (by omega)]
      · rw [decide_eq_false hh, decide_eq_false (by omega)]
    rw [hp]
    by_cases hz : s = ⟨#[]⟩
    · simp [hz]
    · simp [hz]
end Go.AI

/-
  DERIVED: THE SHELF's CONTRACTS AT THIS DUMP, IN PLAIN WORDS (tools/lay-plain.mjs out of 'YtldpjfopgbeiiaaGreatDoorLay.lean', which tools/lay-shelf.mjs wrote): THE SAME DECLARATIONS UNDER THE SAME NAMES: 'import', 'namespace', 'open', 'def', 'theorem' AND NOTHING ELSE: no command of the shelf's: FOR A HAND-IN. Each laying: the table of numbers ('.._ren') and one theorem, a field a fact of the dump's own or the kernel's comparison; each contract: ONE APPLICATION.
-/
namespace Go.Proofs
open Go.Shelf
def Tryz.lays197_ren : Go.Shelf.Ren := ⟨fun | 197 => 54 | 260 => 62 | n => n, fun | 9 => 9 | 21 => 21 | 3 => 3 | 4 => 4 | 5 => 5 | 105 => 104 | 119 => 118 | 0 => 0 | 46 => 119 | 139 => 122 | 138 => 121 | n => n, fun | 3 => 0 | 4 => 1 | n => n⟩
theorem Tryz.lays197 : Go.Proofs.Lays.n197 Tryz.prog Tryz.lays197_ren := {
  mixed := by kernel_rfl
  f197 := Tryz.func54.trans (congrArg some (by kernel_rfl))
  f260 := Tryz.func62.trans (congrArg some (by kernel_rfl))
  t0 := Tryz.underlying0
  a0 := Tryz.isAgg0
  z0 := Tryz.sizeOf0
  v0 := Tryz.zeroValue0
  t3 := Tryz.underlying3
  a3 := Tryz.isAgg3
  z3 := Tryz.sizeOf3
  v3 := Tryz.zeroValue3
  t4 := Tryz.underlying4
  a4 := Tryz.isAgg4
  z4 := Tryz.sizeOf4
  v4 := Tryz.zeroValue4
  t5 := Tryz.underlying5
  a5 := Tryz.isAgg5
  z5 := Tryz.sizeOf5
  v5 := Tryz.zeroValue5
  t9 := Tryz.underlying9
  a9 := Tryz.isAgg9
  z9 := Tryz.sizeOf9
  v9 := Tryz.zeroValue9
  t21 := Tryz.underlying21
  a21 := Tryz.isAgg21
  z21 := Tryz.sizeOf21
  v21 := Tryz.zeroValue21
  t46 := Tryz.underlying119
  a46 := Tryz.isAgg119
  z46 := Tryz.sizeOf119
  v46 := Tryz.zeroValue119
  t105 := Tryz.underlying104
  a105 := Tryz.isAgg104
  z105 := Tryz.sizeOf104
  v105 := Tryz.zeroValue104
  t119 := Tryz.underlying118
  a119 := Tryz.isAgg118
  z119 := Tryz.sizeOf118
  t138 := Tryz.underlying121
  a138 := Tryz.isAgg121
  z138 := Tryz.sizeOf121
  v138 := Tryz.zeroValue121
  t139 := Tryz.underlying122
  a139 := Tryz.isAgg122
  z139 := Tryz.sizeOf122
  v139 := Tryz.zeroValue122
  g3 := by kernel_rfl
  g4 := by kernel_rfl }
end Go.Proofs

namespace Go.AI
open Go.Proofs Go Go.RowKit
variable (W0 : World)
set_option maxRecDepth 20000

theorem fin_pres {w w' : World} {G : Gh} (b : Nat) (h : (∃ x, G.ow b = .ho x) ∨ ∃ x j, G.ow b = .pl (.hc x j)) (hw : w'.heap[b]? = w.heap[b]?) : Pres w G w' (G.fin none) b := by
  refine ⟨?_, rfl, hw⟩
  rcases h with ⟨x, h⟩ | ⟨x, j, h⟩ <;> simp [Gh.fin, h]

theorem decC (hT : Lib.Utf8Tabs (Tryz.lays197_ren.g 3) (Tryz.lays197_ren.g 4) W0) : DecC W0 := by
  intro s h w G us hw hl ha hh ho
  obtain ⟨u, rfl⟩ : ∃ u, us = [u] := by
    cases us with
    | nil => simp at hl
    | cons u r => cases r with
      | nil => exact ⟨u, rfl⟩
      | cons => simp at hl
  have hu : u = .string s := (ha 0 u _ rfl rfl).v_inv.lit_inv
  subst hu
  have hT2 : Lib.Utf8Tabs (Tryz.lays197_ren.g 3) (Tryz.lays197_ren.g 4) w := Utf8Tabs_below hT hw.below
  have c := Any.utf8_DecodeRuneInString Tryz.lays197 s w hT2
  unfold Entered
  have he : (callFunc 54 [Value.string s].toArray).run Tryz.prog w = .ok (.enter 54 [Value.string s].toArray) w := by
    have h2 : ((Tryz.f54).name == "runtime.NumGoroutine") = false := by kernel_rfl
    have h1 : (Tryz.f54).name ≠ "runtime.NumGoroutine" := by simpa using h2
    obtain ⟨cb, hcb⟩ : ∃ cb, (Tryz.f54).body = some cb := ⟨_, rfl⟩
    simp [callFunc, Tryz.func54, h1, hcb, mark]
  rw [he]
  refine Calls.mono c fun e w' ⟨hret, hb⟩ => ?_
  have hbl : ∀ b, b < w.heap.size → w'.heap[b]? = w.heap[b]? := fun b hlt => hb.block b hlt
  have ext : Ext w G w' (G.fin none) := by
    refine ⟨hb.size, Nat.le_refl _, fun _ _ => rfl, fun _ => Nat.le_refl _, fun b o hlt => ?_⟩
    rcases Nat.lt_or_ge b w.heap.size with h1 | h1
    · exact cell_of_heap (hbl b h1)
    · have := (hw.past b h1).2
      rw [this] at hlt; exact absurd hlt (Nat.not_lt_zero _)
  refine ⟨_, .v (.tup [.lit (.int .i32 (decG s).1), V.i (decG s).2]), h, G.fin none, hret, ⟨rfl, rfl⟩, ⟨fun b hb' => ?_, fun x hx => Nat.lt_of_lt_of_le (hw.ph x hx) hb.size, fun b hb' => ?_, hw.below.trans (hb.mono hw.below.size)⟩, ?_, fun x cs hx => ?_, ext, fun b hlt hf => ⟨hbl b hlt, ?_, rfl⟩, fun b => ?_⟩
  · have := hw.past b (Nat.le_trans hb.size hb')
    exact ⟨by simp [Gh.fin, this.1], this.2⟩
  · simp [Gh.fin, hw.old b hb']
  · refine .v _ _ _ (.tup [_, _] _ rfl fun j u c hu hc => ?_)
    match j, hu, hc with
    | 0, hu, hc => cases hu; cases hc; exact .lit _
    | 1, hu, hc => cases hu; cases hc; exact .lit _
  · refine (hh x cs hx).pres ext fun b hb' => fin_pres b ?_ (hbl b ?_)
    · rcases hb' with h1 | ⟨j, h1⟩
      · exact .inl ⟨_, h1⟩
      · exact .inr ⟨_, _, h1⟩
    · rcases Nat.lt_or_ge b w.heap.size with h1 | h1
      · exact h1
      · have := (hw.past b h1).1
        rcases hb' with h2 | ⟨j, h2⟩ <;> rw [h2] at this <;> cases this
  · rcases hf with h1 | h1 <;> simp [Gh.fin, h1]
  · have hob := ho b
    have hx : ∀ o : Ow, G.ow b = o → (match (match o with | .pl (.slot j) => if (none : Option Nat) = some j then .pl .ret else .free | .lo _ => .free | .pl (.lc _ _) => .free | o => o : Ow) with
        | .free | .ho _ | .pl (.hc _ _) | .pl .ret => True | .out => b < w.heap.size ∧ G.ow b = .out | _ => False) := by
      intro o e
      rw [e] at hob
      cases o with
      | free => trivial
      | ho x => trivial
      | out =>
        refine ⟨?_, e⟩
        rcases Nat.lt_or_ge b w.heap.size with h1 | h1
        · exact h1
        · have := (hw.past b h1).1; rw [e] at this; cases this
      | lo k => exact hob.elim
      | pl p =>
        cases p with
        | slot k => simp
        | hc x j => trivial
        | lc k j => exact hob.elim
        | ret => exact hob.elim
    exact hx _ rfl
end Go.AI

namespace Go.AI
open Go.Proofs Go Go.RowKit
set_option maxRecDepth 20000
section
variable {H' : Type} {enc : TypeId × Value → H'} {W : World}

theorem Opn.mono {t : TypeId} {S S' : List V → Prop} {P : Program} (h : Opn enc P W t S) (hs : ∀ vs, S vs → S' vs) : Opn enc P W t S' := by
  intro fuel cs x hx
  obtain ⟨vs, h1, h2⟩ := h fuel cs x hx
  exact ⟨vs, hs vs h1, h2⟩
theorem list_of {α : Type} {f : α → List V} : ∀ {es : List (List V)}, (∀ x ∈ es, ∃ a, x = f a) → ∃ l : List α, es = l.map f := by
  intro es
  induction es with
  | nil => intro _; exact ⟨[], rfl⟩
  | cons x es ih =>
    intro h
    obtain ⟨a, rfl⟩ := h x (by simp)
    obtain ⟨l, rfl⟩ := ih fun y hy => h y (by simp [hy])
    exact ⟨a :: l, rfl⟩

theorem o_int : Opn enc Tryz.prog W 3 (fun vs => ∃ n, vs = [V.i n]) := opn_int Tryz.underlying3
theorem o_str : Opn enc Tryz.prog W 9 (fun vs => ∃ s, vs = [V.s s]) := opn_string Tryz.underlying9
theorem o_bool : Opn enc Tryz.prog W 4 (fun vs => ∃ s, vs = [V.b s]) := opn_bool Tryz.underlying4
theorem o_cell : Opn enc Tryz.prog W 92 (fun vs => ∃ c : Cell, vs = c.v) := by
  refine (opn_struct Tryz.underlying92 (by kernel_rfl) (show OpnAll enc Tryz.prog W _ [_, _, _, _] from ⟨o_str, o_bool, o_int, o_int, trivial⟩)).mono ?_
  rintro _ ⟨_, _, ⟨a, rfl⟩, ⟨_, _, ⟨b, rfl⟩, ⟨_, _, ⟨c, rfl⟩, ⟨_, _, ⟨d, rfl⟩, rfl, rfl⟩, rfl⟩, rfl⟩, rfl⟩
  exact ⟨⟨a, b, c, d⟩, rfl⟩
theorem o_col : Opn enc Tryz.prog W 99 (fun vs => ∃ c : Col, vs = c.v) := by
  refine (opn_struct Tryz.underlying99 (by kernel_rfl) (show OpnAll enc Tryz.prog W _ [_, _] from ⟨o_str, o_cell, trivial⟩)).mono ?_
  rintro _ ⟨_, _, ⟨a, rfl⟩, ⟨_, _, ⟨b, rfl⟩, rfl, rfl⟩, rfl⟩
  exact ⟨⟨a, b⟩, rfl⟩
theorem o_cols : Opn enc Tryz.prog W 93 (fun vs => ∃ l : List Col, vs = [.sl 5 (l.map fun c => .agg c.v)]) := by
  have e : Tryz.prog.cellsOf 99 = 5 := by kernel_rfl
  refine (opn_slice Tryz.underlying93 o_col (by rw [e]; decide) (by rintro _ ⟨c, rfl⟩ x hx; simp [Col.v] at hx; rcases hx with rfl | rfl | rfl | rfl | rfl <;> rfl) V.agg (fun _ _ => rfl)).mono ?_
  rintro _ ⟨es, h, rfl⟩
  obtain ⟨l, rfl⟩ := list_of h
  exact ⟨l, by rw [e, List.map_map]; rfl⟩
theorem o_row : Opn enc Tryz.prog W 95 (fun vs => ∃ c : Row, vs = c.v) := by
  refine (opn_struct Tryz.underlying95 (by kernel_rfl) (show OpnAll enc Tryz.prog W _ [_, _, _, _, _] from ⟨o_str, o_cell, o_int, o_int, o_cols, trivial⟩)).mono ?_
  rintro _ ⟨_, _, ⟨a, rfl⟩, ⟨_, _, ⟨b, rfl⟩, ⟨_, _, ⟨c, rfl⟩, ⟨_, _, ⟨d, rfl⟩, ⟨_, _, ⟨e, rfl⟩, rfl, rfl⟩, rfl⟩, rfl⟩, rfl⟩, rfl⟩
  exact ⟨⟨a, b, c, d, e⟩, rfl⟩
theorem o_rows : Opn enc Tryz.prog W 63 (fun vs => ∃ l : List Row, vs = [.sl 8 (l.map fun c => .agg c.v)]) := by
  have e : Tryz.prog.cellsOf 95 = 8 := by kernel_rfl
  refine (opn_slice Tryz.underlying63 o_row (by rw [e]; decide) (by rintro _ ⟨c, rfl⟩ x hx; simp [Row.v] at hx; rcases hx with rfl | rfl | rfl | rfl | rfl | rfl | rfl | rfl <;> rfl) V.agg (fun _ _ => rfl)).mono ?_
  rintro _ ⟨es, h, rfl⟩
  obtain ⟨l, rfl⟩ := list_of h
  exact ⟨l, by rw [e, List.map_map]; rfl⟩
theorem o_part : Opn enc Tryz.prog W 65 (fun vs => ∃ c : Part, vs = c.v) := by
  refine (opn_struct Tryz.underlying65 (by kernel_rfl) (show OpnAll enc Tryz.prog W _ [_, _, _] from ⟨o_str, o_int, o_rows, trivial⟩)).mono ?_
  rintro _ ⟨_, _, ⟨a, rfl⟩, ⟨_, _, ⟨b, rfl⟩, ⟨_, _, ⟨c, rfl⟩, rfl, rfl⟩, rfl⟩, rfl⟩
  exact ⟨⟨a, b, c⟩, rfl⟩
theorem o_mut : Opn enc Tryz.prog W 67 (fun vs => ∃ c : Mut, vs = c.v) := by
  refine (opn_struct Tryz.underlying67 (by kernel_rfl) (show OpnAll enc Tryz.prog W _ [_, _] from ⟨o_str, o_part, trivial⟩)).mono ?_
  rintro _ ⟨_, _, ⟨a, rfl⟩, ⟨_, _, ⟨b, rfl⟩, rfl, rfl⟩, rfl⟩
  exact ⟨⟨a, b⟩, rfl⟩
theorem o_muts : Opn enc Tryz.prog W 22 (fun vs => ∃ l : List Mut, vs = [.sl 4 (l.map fun c => .agg c.v)]) := by
  have e : Tryz.prog.cellsOf 67 = 4 := by kernel_rfl
  refine (opn_slice Tryz.underlying22 o_mut (by rw [e]; decide) (by rintro _ ⟨c, rfl⟩ x hx; simp [Mut.v] at hx; rcases hx with rfl | rfl | rfl | rfl <;> rfl) V.agg (fun _ _ => rfl)).mono ?_
  rintro _ ⟨es, h, rfl⟩
  obtain ⟨l, rfl⟩ := list_of h
  exact ⟨l, by rw [e, List.map_map]; rfl⟩
theorem o_strs : Opn enc Tryz.prog W 23 (fun vs => ∃ l : List Str, vs = [.sl 1 (l.map V.s)]) := by
  have e : Tryz.prog.cellsOf 9 = 1 := by kernel_rfl
  refine (opn_slice Tryz.underlying23 o_str (by rw [e]; decide) (by rintro _ ⟨c, rfl⟩ x hx; simp at hx; subst hx; rfl) (fun vs => vs.headD default) (by rintro _ ⟨c, rfl⟩; rfl)).mono ?_
  rintro _ ⟨es, h, rfl⟩
  obtain ⟨l, rfl⟩ := list_of (f := fun s : Str => [V.s s]) h
  exact ⟨l, by rw [e, List.map_map]; rfl⟩
theorem o_msg : Opn enc Tryz.prog W 25 (fun vs => ∃ m : Msg, vs = m.v) := by
  refine (opn_struct Tryz.underlying25 (by kernel_rfl) (show OpnAll enc Tryz.prog W _ [_, _, _, _, _, _, _] from ⟨o_int, o_int, o_int, o_int, o_muts, o_strs, o_int, trivial⟩)).mono ?_
  rintro _ ⟨_, _, ⟨a, rfl⟩, ⟨_, _, ⟨b, rfl⟩, ⟨_, _, ⟨c, rfl⟩, ⟨_, _, ⟨d, rfl⟩, ⟨_, _, ⟨e, rfl⟩, ⟨_, _, ⟨f, rfl⟩, ⟨_, _, ⟨g, rfl⟩, rfl, rfl⟩, rfl⟩, rfl⟩, rfl⟩, rfl⟩, rfl⟩, rfl⟩
  exact ⟨⟨a, b, c, d, e, f, g⟩, rfl⟩
end
end Go.AI

namespace Go.Proofs.YtldpjfopgbeiiaaGreatDoor
open Go Go.ChangeShapes Go.WideShapes Go.ChangeAt Go.WideMaps Go.WideElems Go.RowKit Go.AI
set_option maxRecDepth 100000
set_option maxHeartbeats 2000000

theorem own : ownKnob Tryz.prog.godebug = none := by kernel_rfl
theorem laidOut : laidOutB Tryz.prog = true := by kernel_rfl

/-- THE WITNESS: the settled world, the two variables holding what their initialisers lay. -/
noncomputable def laidWorld (os : Os) : World :=
  let w0 := World.holding Tryz.prog os ⟨#[], #[], []⟩
  let put (h : Array Obj) (g : Nat) (cs : Array Value) : Array Obj := h.modify g fun
    | .cells _ t frozen => .cells cs t frozen
    | o => o
  let h1 := put w0.heap 0 (Lib.firstTab.map fun z => Value.int .u8 z).toArray
  let h2 := put h1 1 ((List.range 16).flatMap fun i => [Value.int .u8 (Lib.accLo i), Value.int .u8 (Lib.accHi i)]).toArray
  { w0 with heap := h2 }
def lay : List (String × DataW Unit) := [("unicode/utf8.acceptRanges", Rows.laid_unicode_utf8_acceptRanges), ("unicode/utf8.first", Rows.laid_unicode_utf8_first)]
theorem lay_eq : lay = [("unicode/utf8.acceptRanges", Lib.acceptData), ("unicode/utf8.first", Lib.firstData)] := by
  have h1 : (Rows.laid_unicode_utf8_acceptRanges : DataW Unit) = Lib.acceptData := by kernel_rfl
  unfold lay Rows.laid_unicode_utf8_first
  rw [h1, Pinned.utf8First_eq]
theorem lay_plain (w : World) : laidMetH Tryz.prog lay w = laidMet Tryz.prog lay w := MakeChecks.laidMetH_plain _ _ _ (by kernel_rfl)
theorem laid_met (os : Os) (args : Array Value) : laidMetH Tryz.prog lay ((laidWorld os).forCall (fun _ _ => 0) ⟨#[], args, []⟩).memory := by
  rw [lay_plain, lay_eq]
  exact (LaidIn.of_run (l := [("unicode/utf8.acceptRanges", Lib.acceptData), ("unicode/utf8.first", Lib.firstData)]) [0, 1] 8 (by kernel_rfl) (by kernel_rfl) (by kernel_rfl) (by kernel_rfl)).met
theorem tabs {W : World} (h : laidMetH Tryz.prog lay W) : Lib.Utf8Tabs (Tryz.lays197_ren.g 3) (Tryz.lays197_ren.g 4) W := by
  rw [lay_plain, lay_eq] at h
  exact utf8Tabs_of_readsT { t5 := Tryz.lays197.t5, t119 := Tryz.lays197.t119, t138 := Tryz.lays197.t138, t139 := Tryz.lays197.t139 }
    ⟨by kernel_rfl, by kernel_rfl, by kernel_rfl, by kernel_rfl, by kernel_rfl, by kernel_rfl, by kernel_rfl⟩ (Lib.laidMet.reads h (.tail _ (.head _))) (Lib.laidMet.reads h (.head _))

end Go.Proofs.YtldpjfopgbeiiaaGreatDoor

namespace Go.AI
open Go.Proofs Go
variable (W0 : World)
set_option maxRecDepth 20000
set_option maxHeartbeats 1000000

theorem dec_pos (k : Nat) : decide ((0:Int) < (k : Int)) = decide (0 < k) := by
  by_cases hh : 0 < k
  · rw [decide_eq_true hh, decide_eq_true (by omega)]
  · rw [decide_eq_false hh, decide_eq_false (by omega)]
theorem dec_lt (n m : Nat) (i : Int) (hi : i = m) : decide (i < (n : Int)) = !decide (n ≤ m) := by
  subst hi
  by_cases hh : n ≤ m
  · rw [decide_eq_true hh, decide_eq_false (by omega)]; rfl
  · rw [decide_eq_false hh, decide_eq_true (by omega)]; rfl

def prevN (d : List Col) (c : Col) : Col := (d.getLast?).getD c
def lastN (d : List Col) : Option Str := (d.getLast?).map (·.name)
theorem prev_ord (d : List Col) (c : Col) : (bif decide ((0:Int) < (d.length : Int)) then !strLess (prevN d c).name c.name else false) = !(match lastN d with | some n => strLess n c.name | none => true) := by
  rcases List.eq_nil_or_concat d with rfl | ⟨d', x, rfl⟩
  · rfl
  · simp [prevN, lastN]
theorem prev_get (d : List Col) (c : Col) (r : List Col) (i : Int) (hi : i = (d.length : Int) - 1) (h : 0 < d.length) : ((d ++ c :: r).map fun c => V.agg c.v)[i.toNat]? = some (.agg (prevN d c).v) := by
  rcases List.eq_nil_or_concat d with rfl | ⟨d', x, rfl⟩
  · simp at h
  · have : i.toNat = d'.length := by subst hi; simp
    rw [this]; simp [prevN]

theorem c_checkRow (hD : DecC W0) (r : Row) (hk : r.cols.length ≤ 2 ^ 45) (hn : ∀ c ∈ r.cols, c.name.size ≤ 2 ^ 40) (h : H) : ACalls Tryz.prog W0 46 [.v (.agg r.v)] h fun x h' => x = .v (V.b (checkRow r)) ∧ h' = h := by
  obtain ⟨key, ⟨val, dead, at_, end_⟩, gone, shade, cols⟩ := r
  replace hk : cols.length ≤ 2 ^ 45 := hk
  replace hn : ∀ c ∈ cols, c.name.size ≤ 2 ^ 40 := hn
  have kk : ∀ b : Bool, b = checkRow ⟨key, ⟨val, dead, at_, end_⟩, gone, shade, cols⟩ → A.v (V.b b) = A.v (V.b (checkRow ⟨key, ⟨val, dead, at_, end_⟩, gone, shade, cols⟩)) := by rintro b rfl; rfl
  have hsp : checkRow ⟨key, ⟨val, dead, at_, end_⟩, gone, shade, cols⟩ = ((((((((decide (key.size ≤ 400) && checkCell ⟨val, dead, at_, end_⟩) && decide (val = ⟨#[]⟩)) && !dead) && stampB gone) && stampB shade) && decide (cols.length ≤ 8)) && colsOK none cols)) := rfl
  have hcl : (cols.map fun c => V.agg c.v).length = cols.length := List.length_map ..
  refine ACalls.of (C := CO [] fun i => match i with | 6 => ([0, 1, 2, 3, 4, 5, 6, 7, 8, 9, 10, 11, 12, 13, 14, 15, 16, 17, 18, 19, 20, 21, 22, 23, 24, 25, 26, 27, 28, 29, 30, 31], [], 1) | _ => ([], [], 0)) (cOkO _ _) hP (fn := Tryz.f46) (by kernel_rfl) (by kernel_rfl) ?_
  refine ⟨rfl, V.b (checkCell ⟨val, dead, at_, end_⟩), fun hg => (c_checkCell W0 ⟨val, dead, at_, end_⟩ _), ?_⟩
  refine ⟨rfl, V.b (stampB gone), fun hg => (c_rstamp W0 gone _), ?_⟩
  refine ⟨rfl, V.b (stampB shade), fun hg => (c_rstamp W0 shade _), ?_⟩
  have conv : ∀ x : Bool, x = (bif (bif (bif (bif (bif (bif decide ((400:Int) < (key.size : Int)) then true else !checkCell ⟨val, dead, at_, end_⟩) then true else !decide (val = ⟨#[]⟩)) then true else dead) then true else !stampB gone) then true else !stampB shade) then true else decide ((8:Int) < ((cols.map fun c => V.agg c.v).length : Int))) →
      x = !(((((((decide (key.size ≤ 400) && checkCell ⟨val, dead, at_, end_⟩) && decide (val = ⟨#[]⟩)) && !dead) && stampB gone) && stampB shade) && decide (cols.length ≤ 8))) := by
    rintro x rfl
    rw [hcl, dec_lt key.size 400 400 rfl, dec_lt cols.length 8 8 rfl]
    cases decide (key.size ≤ 400) <;> cases checkCell ⟨val, dead, at_, end_⟩ <;> cases decide (val = ⟨#[]⟩) <;> cases dead <;> cases stampB gone <;> cases stampB shade <;> cases decide (cols.length ≤ 8) <;> rfl
  refine ⟨fun c4 => ?_, fun c4 => ?_⟩
  · replace c4 := (conv _ rfl).symm.trans c4
    refine ⟨kk false ?_, rfl⟩
    rw [hsp, not_t c4]; rfl
  replace c4 := (conv _ rfl).symm.trans c4
  replace c4 := not_f c4
  have hsp2 : checkRow ⟨key, ⟨val, dead, at_, end_⟩, gone, shade, cols⟩ = colsOK none cols := by rw [hsp, c4]; rfl
  refine ⟨0, [1, 45, 46, 47], 1, fun m xs l h2 => ∃ (d r : List Col) (k n : Int), xs = [.lp 0 0, .v (.sl 5 (cols.map fun c => .agg c.v)), .v (V.i n), .v (V.i k)] ∧
      l = [.cells [.v (V.s key), .v (V.s val), .v (V.b dead), .v (V.i at_), .v (V.i end_), .v (V.i gone), .v (V.i shade), .v (.sl 5 (cols.map fun c => .agg c.v))]] ∧ h2 = h ∧ m = r.length ∧ cols = d ++ r ∧ k = d.length ∧ n = cols.length ∧
      colsOK none cols = colsOK (lastN d) r,
    ⟨cols.length, [], cols, _, _, rfl, rfl, rfl, rfl, rfl, rfl, by rw [← hcl], rfl⟩, ?_⟩
  rintro m xs l h2 ⟨d, r, k, n, rfl, rfl, rfl, rfl, hd, rfl, rfl, hacc⟩
  have hdl : cols.length = d.length + r.length := by rw [hd, List.length_append]
  refine ⟨fun c6 => ?_, fun c6 => ?_⟩
  · replace c6 : (d.length : Int) < (cols.length : Int) := of_decide_eq_true c6
    cases r with
    | nil => exact absurd hdl (by simp only [List.length_nil]; omega)
    | cons c r =>
    have hget : (cols.map fun c => V.agg c.v)[d.length]? = some (.agg c.v) := by rw [hd]; exact map_get _ d c r
    have hm : c ∈ cols := by rw [hd]; simp
    simp only [List.length_cons] at hdl
    refine ⟨.agg c.v, ⟨by show (0:Int) ≤ (d.length : Int); omega, ?_⟩, ?_⟩
    · show (cols.map fun c => V.agg c.v)[((d.length : Nat) : Int).toNat]? = _
      rw [Int.toNat_natCast]; exact hget
    refine ⟨[], fun _ => false, ?_⟩
    refine (c_Name W0 hD c.name (hn c hm) _).mono ?_
    rintro _ _ ⟨rfl, rfl⟩
    refine ⟨fun hg => by show inI64 ((d.length : Int) - 1); unfold inI64; omega, ?_⟩
    refine ⟨.agg (prevN d c).v, fun hg => ?_, ?_⟩
    · have hg' : (bif isName c.name then decide ((0:Int) < (d.length : Int)) else false) = true := by
        revert hg; cases isName c.name <;> cases decide ((0:Int) < (d.length : Int)) <;> decide
      have hpos : 0 < d.length := by
        rw [dec_pos] at hg'
        revert hg'
        cases isName c.name
        · intro h; cases h
        · exact of_decide_eq_true
      refine ⟨by show (0:Int) ≤ (d.length : Int) - 1; omega, ?_⟩
      show (cols.map fun c => V.agg c.v)[((d.length : Int) - 1).toNat]? = _
      rw [hd]; exact prev_get d c r _ rfl hpos
    refine ⟨Nat.zero_le _, ?_⟩
    refine ⟨rfl, V.b (checkCell c.cell), fun hg => (c_checkCell W0 c.cell _), ?_⟩
    have hor := prev_ord d c
    have conv : ∀ x : Bool, x = (bif (bif (bif !isName c.name then true else (bif decide ((0:Int) < (d.length : Int)) then !strLess (prevN d c).name c.name else false)) then true else !checkCell c.cell) then true else decide (c.cell.at_ ≤ 0)) →
        x = !(isName c.name && (match lastN d with | some n => strLess n c.name | none => true) && checkCell c.cell && decide (0 < c.cell.at_)) := by
      rintro x rfl
      rw [hor]
      have : decide (c.cell.at_ ≤ 0) = !decide (0 < c.cell.at_) := by
        by_cases hh : 0 < c.cell.at_
        · rw [decide_eq_true hh, decide_eq_false (by omega)]; rfl
        · rw [decide_eq_false hh, decide_eq_true (by omega)]; rfl
      rw [this]
      cases isName c.name <;> cases (match lastN d with | some n => strLess n c.name | none => true) <;> cases checkCell c.cell <;> cases decide (0 < c.cell.at_) <;> rfl
    have hst : colsOK (lastN d) (c :: r) = (isName c.name && (match lastN d with | some n => strLess n c.name | none => true) && checkCell c.cell && decide (0 < c.cell.at_) && colsOK (some c.name) r) := rfl
    refine ⟨fun c8 => ?_, fun c8 => ?_⟩
    · replace c8 := (conv _ rfl).symm.trans c8
      refine ⟨kk false ?_, rfl⟩
      rw [hsp2, hacc, hst, not_t c8]; rfl
    · replace c8 := (conv _ rfl).symm.trans c8
      replace c8 := not_f c8
      refine ⟨by show inI64 ((d.length : Int) + 1); unfold inI64; omega, ?_⟩
      refine ⟨r.length, by show r.length < r.length + 1; omega, d ++ [c], r, _, _, rfl, rfl, rfl, rfl, by rw [hd]; simp, by simp, rfl, ?_⟩
      rw [hacc, hst, c8]; simp [lastN]
  · replace c6 : ¬ (d.length : Int) < (cols.length : Int) := of_decide_eq_false c6
    cases r with
    | cons c r => exact absurd hdl (by simp only [List.length_cons]; omega)
    | nil =>
    refine ⟨kk true ?_, rfl⟩
    rw [hsp2, hacc]; rfl
end Go.AI

namespace Go.AI
open Go.Proofs Go
variable (W0 : World)
set_option maxRecDepth 20000
set_option maxHeartbeats 1000000

/-- Lists that are no longer than memory. -/
def Row.sized (r : Row) : Prop := r.cols.length ≤ 2 ^ 45 ∧ ∀ c ∈ r.cols, c.name.size ≤ 2 ^ 40
def Part.sized (p : Part) : Prop := p.rows.length ≤ 2 ^ 45 ∧ ∀ r ∈ p.rows, r.sized

def prevR (d : List Row) (c : Row) : Row := (d.getLast?).getD c
def lastR (d : List Row) : Option Str := (d.getLast?).map (·.key)
theorem prevR_ord (d : List Row) (c : Row) : (bif decide ((0:Int) < (d.length : Int)) then !strLess (prevR d c).key c.key else false) = !(match lastR d with | some n => strLess n c.key | none => true) := by
  rcases List.eq_nil_or_concat d with rfl | ⟨d', x, rfl⟩
  · rfl
  · simp [prevR, lastR]
theorem prevR_get (d : List Row) (c : Row) (r : List Row) (i : Int) (hi : i = (d.length : Int) - 1) (h : 0 < d.length) : ((d ++ c :: r).map fun c => V.agg c.v)[i.toNat]? = some (.agg (prevR d c).v) := by
  rcases List.eq_nil_or_concat d with rfl | ⟨d', x, rfl⟩
  · simp at h
  · have : i.toNat = d'.length := by subst hi; simp
    rw [this]; simp [prevR]

theorem c_checkPart (hD : DecC W0) (p : Part) (hp : p.sized) (h : H) : ACalls Tryz.prog W0 33 [.v (.agg p.v)] h fun x h' => x = .v (V.b (checkPart p)) ∧ h' = h := by
  obtain ⟨key, gone, rows⟩ := p
  obtain ⟨hk, hn⟩ := hp
  replace hk : rows.length ≤ 2 ^ 45 := hk
  replace hn : ∀ r ∈ rows, r.sized := hn
  have kk : ∀ b : Bool, b = checkPart ⟨key, gone, rows⟩ → A.v (V.b b) = A.v (V.b (checkPart ⟨key, gone, rows⟩)) := by rintro b rfl; rfl
  have hsp : checkPart ⟨key, gone, rows⟩ = ((((decide (key.size ≤ 100) && decide (0 ≤ gone)) && decide (gone ≤ 1099511627776)) && decide (rows.length ≤ 100)) && rowsOK none rows) := rfl
  have hcl : (rows.map fun c => V.agg c.v).length = rows.length := List.length_map ..
  refine ACalls.of (C := CO [] fun i => match i with | 6 => ([0, 1, 2, 3, 4, 5, 6, 7, 8, 9, 10, 11, 12, 13, 14, 15, 16, 17, 18], [], 1) | _ => ([], [], 0)) (cOkO _ _) hP (fn := Tryz.f33) (by kernel_rfl) (by kernel_rfl) ?_
  have conv : ∀ x : Bool, x = (bif (bif (bif decide ((100:Int) < (key.size : Int)) then true else decide (gone < 0)) then true else decide (1099511627776 < gone)) then true else decide ((100:Int) < ((rows.map fun c => V.agg c.v).length : Int))) →
      x = !(((decide (key.size ≤ 100) && decide (0 ≤ gone)) && decide (gone ≤ 1099511627776)) && decide (rows.length ≤ 100)) := by
    rintro x rfl
    have e1 : decide (gone < 0) = !decide (0 ≤ gone) := by
      by_cases hh : 0 ≤ gone
      · rw [decide_eq_true hh, decide_eq_false (by omega)]; rfl
      · rw [decide_eq_false hh, decide_eq_true (by omega)]; rfl
    have e2 : decide (1099511627776 < gone) = !decide (gone ≤ 1099511627776) := by
      by_cases hh : gone ≤ 1099511627776
      · rw [decide_eq_true hh, decide_eq_false (by omega)]; rfl
      · rw [decide_eq_false hh, decide_eq_true (by omega)]; rfl
    rw [hcl, dec_lt key.size 100 100 rfl, dec_lt rows.length 100 100 rfl, e1, e2]
    cases decide (key.size ≤ 100) <;> cases decide (0 ≤ gone) <;> cases decide (gone ≤ 1099511627776) <;> cases decide (rows.length ≤ 100) <;> rfl
  refine ⟨fun c4 => ?_, fun c4 => ?_⟩
  · replace c4 := (conv _ rfl).symm.trans c4
    refine ⟨kk false ?_, rfl⟩
    rw [hsp, not_t c4]; rfl
  replace c4 := (conv _ rfl).symm.trans c4
  replace c4 := not_f c4
  have hsp2 : checkPart ⟨key, gone, rows⟩ = rowsOK none rows := by rw [hsp, c4]; rfl
  refine ⟨0, [1, 26, 27, 28], 1, fun m xs l h2 => ∃ (d r : List Row) (k n : Int), xs = [.lp 0 0, .v (.sl 8 (rows.map fun c => .agg c.v)), .v (V.i n), .v (V.i k)] ∧
      l = [.cells [.v (V.s key), .v (V.i gone), .v (.sl 8 (rows.map fun c => .agg c.v))]] ∧ h2 = h ∧ m = r.length ∧ rows = d ++ r ∧ k = d.length ∧ n = rows.length ∧
      rowsOK none rows = rowsOK (lastR d) r,
    ⟨rows.length, [], rows, _, _, rfl, rfl, rfl, rfl, rfl, rfl, by rw [← hcl], rfl⟩, ?_⟩
  rintro m xs l h2 ⟨d, r, k, n, rfl, rfl, rfl, rfl, hd, rfl, rfl, hacc⟩
  have hdl : rows.length = d.length + r.length := by rw [hd, List.length_append]
  refine ⟨fun c6 => ?_, fun c6 => ?_⟩
  · replace c6 : (d.length : Int) < (rows.length : Int) := of_decide_eq_true c6
    cases r with
    | nil => exact absurd hdl (by simp only [List.length_nil]; omega)
    | cons c r =>
    have hget : (rows.map fun c => V.agg c.v)[d.length]? = some (.agg c.v) := by rw [hd]; exact map_get _ d c r
    have hm : c ∈ rows := by rw [hd]; simp
    simp only [List.length_cons] at hdl
    refine ⟨.agg c.v, ⟨by show (0:Int) ≤ (d.length : Int); omega, ?_⟩, ?_⟩
    · show (rows.map fun c => V.agg c.v)[((d.length : Nat) : Int).toNat]? = _
      rw [Int.toNat_natCast]; exact hget
    refine ⟨[], fun _ => false, ?_⟩
    refine (c_checkRow W0 hD c (hn c hm).1 (hn c hm).2 _).mono ?_
    rintro _ _ ⟨rfl, rfl⟩
    refine ⟨fun hg => by show inI64 ((d.length : Int) - 1); unfold inI64; omega, ?_⟩
    refine ⟨.agg (prevR d c).v, fun hg => ?_, ?_⟩
    · have hg' : (bif checkRow c then decide ((0:Int) < (d.length : Int)) else false) = true := by
        revert hg; cases checkRow c <;> cases decide ((0:Int) < (d.length : Int)) <;> decide
      have hpos : 0 < d.length := by
        rw [dec_pos] at hg'
        revert hg'
        cases checkRow c
        · intro h; cases h
        · exact of_decide_eq_true
      refine ⟨by show (0:Int) ≤ (d.length : Int) - 1; omega, ?_⟩
      show (rows.map fun c => V.agg c.v)[((d.length : Int) - 1).toNat]? = _
      rw [hd]; exact prevR_get d c r _ rfl hpos
    refine ⟨Nat.zero_le _, ?_⟩
    have hor := prevR_ord d c
    have conv : ∀ x : Bool, x = (bif !checkRow c then true else (bif decide ((0:Int) < (d.length : Int)) then !strLess (prevR d c).key c.key else false)) →
        x = !(checkRow c && (match lastR d with | some n => strLess n c.key | none => true)) := by
      rintro x rfl
      rw [hor]
      cases checkRow c <;> cases (match lastR d with | some n => strLess n c.key | none => true) <;> rfl
    have hst : rowsOK (lastR d) (c :: r) = (checkRow c && (match lastR d with | some n => strLess n c.key | none => true) && rowsOK (some c.key) r) := rfl
    refine ⟨fun c8 => ?_, fun c8 => ?_⟩
    · replace c8 := (conv _ rfl).symm.trans c8
      refine ⟨kk false ?_, rfl⟩
      rw [hsp2, hacc, hst, not_t c8]; rfl
    · replace c8 := (conv _ rfl).symm.trans c8
      replace c8 := not_f c8
      refine ⟨by show inI64 ((d.length : Int) + 1); unfold inI64; omega, ?_⟩
      refine ⟨r.length, by show r.length < r.length + 1; omega, d ++ [c], r, _, _, rfl, rfl, rfl, rfl, by rw [hd]; simp, by simp, rfl, ?_⟩
      rw [hacc, hst, c8]; simp [lastR]
  · replace c6 : ¬ (d.length : Int) < (rows.length : Int) := of_decide_eq_false c6
    cases r with
    | cons c r => exact absurd hdl (by simp only [List.length_cons]; omega)
    | nil =>
    refine ⟨kk true ?_, rfl⟩
    rw [hsp2, hacc]; rfl
end Go.AI

namespace Go.AI
open Go.Proofs Go
variable (W0 : World)
set_option maxRecDepth 20000
set_option maxHeartbeats 1000000

theorem c_fail (b : List UInt8) (s : RS) (k x : Nat) {h : H} (hx : h x = some (RD b s)) :
    ACalls Tryz.prog W0 107 [.v (.ptr x 0), .v (V.i k)] h fun r h' => r = .v (.tup []) ∧ h' = h.upd x (RD b (s.fail k)) := by
  refine ACalls.of (C := CO [] fun _ => ([], [], 0)) (cOkO _ _) hP (fn := Tryz.f107) (by kernel_rfl) (by kernel_rfl) ?_
  refine ⟨_, ⟨hx, trivial⟩, ?_⟩
  refine ⟨fun c1 => ?_, fun c1 => ?_⟩
  · replace c1 : s.e = 0 := by
      have : ((s.e : Int) == 0) = true := c1
      simpa using this
    refine ⟨rfl, _, hx, ?_⟩
    refine ⟨rfl, ?_⟩
    rw [RS.fail_pos c1]; rfl
  · replace c1 : ¬ s.e = 0 := by
      have : ((s.e : Int) == 0) = false := c1
      simpa using this
    refine ⟨rfl, ?_⟩
    rw [RS.fail_neg c1, H.upd_self hx]; rfl

theorem c_left (b : List UInt8) (s : RS) (x : Nat) (hb : b.length ≤ 2 ^ 45) (hp : s.p ≤ b.length) {h : H} (hx : h x = some (RD b s)) :
    ACalls Tryz.prog W0 119 [.v (.ptr x 0)] h fun r h' => r = .v (V.i ((b.length - s.p : Nat) : Int)) ∧ h' = h := by
  have hl := bytes_length b
  refine ACalls.of (C := CO [] fun i => match i with | 1 => ([0, 1, 2, 3, 4, 5, 6, 7, 8, 9, 10], [], 0) | _ => ([], [], 0)) (cOkO _ _) hP (fn := Tryz.f119) (by kernel_rfl) (by kernel_rfl) ?_
  refine ⟨_, ⟨hx, trivial⟩, ?_⟩
  refine ⟨_, ⟨hx, trivial⟩, ?_⟩
  refine ⟨by show inI64 (((V.bytes b).length : Int) - (s.p : Int)); unfold inI64; omega, ?_⟩
  refine ⟨?_, rfl⟩
  have : ((V.bytes b).length : Int) - (s.p : Int) = ((b.length - s.p : Nat) : Int) := by omega
  exact congrArg (fun n => A.v (V.i n)) this

theorem c_any (b : List UInt8) (s : RS) (x : Nat) (hb : b.length ≤ 2 ^ 45) (hs : s.ok b) {h : H} (hx : h x = some (RD b s)) :
    ACalls Tryz.prog W0 115 [.v (.ptr x 0)] h fun r h' => r = .v (.lit (.int .u64 (rAny b s).1)) ∧ h' = h.upd x (RD b (rAny b s).2) := by
  have hp := hs.1
  refine ACalls.of (C := CO [] fun i => match i with | 3 => ([0, 1, 2, 3, 4, 5, 6, 7, 8, 9, 10, 11, 12, 13, 14, 15], [], 1) | _ => ([], [], 0)) (cOkO _ _) hP (fn := Tryz.f115) (by kernel_rfl) (by kernel_rfl) ?_
  refine ⟨_, ⟨hx, trivial⟩, ?_⟩
  refine ⟨fun c1 => ?_, fun c1 => ?_⟩
  · replace c1 : ¬ s.e = 0 := by
      have : ((s.e : Int) != 0) = true := c1
      simpa using this
    rw [rAny_neg c1, H.upd_self hx]
    exact ⟨rfl, rfl⟩
  replace c1 : s.e = 0 := by
    have : ((s.e : Int) != 0) = false := c1
    simpa using this
  rw [rAny_pos c1]
  refine ⟨[], fun y => Nat.beq y x, ?_⟩
  refine ⟨_, ⟨hx, Nat.beq_refl x⟩, ?_⟩
  refine ⟨_, ⟨hx, Nat.beq_refl x⟩, ?_⟩
  refine (c_GetNum W0 b s.p (by omega) hb _).mono ?_
  rintro _ _ ⟨rfl, rfl⟩
  rw [H.back_hide]
  refine ⟨fun c3 => ?_, fun c3 => ?_⟩
  · replace c3 : ¬ (getNum b s.p).2.2 = 0 := by
      have : (((getNum b s.p).2.2 : Int) != 0) = true := c3
      simpa using this
    refine (c_fail W0 b s (getNum b s.p).2.2 x hx).mono ?_
    rintro _ _ ⟨rfl, rfl⟩
    rw [if_neg c3, RS.fail_pos c1]
    exact ⟨rfl, rfl⟩
  replace c3 : (getNum b s.p).2.2 = 0 := by
    have : (((getNum b s.p).2.2 : Int) != 0) = false := c3
    simpa using this
  rw [if_pos c3]
  refine ⟨rfl, _, hx, ?_⟩
  refine ⟨rfl, ?_⟩
  show h.upd x (.cells [_, _, .v (V.i s.e)]) = _
  rw [c1]; rfl
end Go.AI

namespace Go.AI
open Go.Proofs Go
variable (W0 : World)
set_option maxRecDepth 20000
set_option maxHeartbeats 1000000

theorem c_rnum (b : List UInt8) (s : RS) (x : Nat) (hb : b.length ≤ 2 ^ 45) (hs : s.ok b) {h : H} (hx : h x = some (RD b s)) :
    ACalls Tryz.prog W0 109 [.v (.ptr x 0)] h fun r h' => r = .v (V.i (rNum b s).1) ∧ h' = h.upd x (RD b (rNum b s).2) := by
  have hok := rAny_ok hs
  refine ACalls.of (C := CO [] fun _ => ([], [], 0)) (cOkO _ _) hP (fn := Tryz.f109) (by kernel_rfl) (by kernel_rfl) ?_
  refine (c_any W0 b s x hb hs hx).mono ?_
  rintro _ _ ⟨rfl, rfl⟩
  refine ⟨fun c1 => ?_, fun c1 => ?_⟩
  · replace c1 : 1099511627776 < (rAny b s).1 := by
      have : (1099511627776 : Int) < ((rAny b s).1 : Int) := of_decide_eq_true c1
      omega
    refine (c_fail W0 b (rAny b s).2 6 x (H.upd_get _ _ _)).mono ?_
    rintro _ _ ⟨rfl, rfl⟩
    have e : rNum b s = (0, (rAny b s).2.fail 6) := by unfold rNum; rw [if_pos c1]
    rw [e, H.upd_upd]
    exact ⟨rfl, rfl⟩
  replace c1 : ¬ 1099511627776 < (rAny b s).1 := by
    have : ¬ (1099511627776 : Int) < ((rAny b s).1 : Int) := of_decide_eq_false c1
    omega
  refine ⟨((rAny b s).1 : Int), wrapI64 (by omega) (by omega), ?_⟩
  have e : rNum b s = rAny b s := by unfold rNum; rw [if_neg c1]
  rw [e]
  exact ⟨rfl, rfl⟩

theorem c_rcount (b : List UInt8) (s : RS) (x : Nat) (hb : b.length ≤ 2 ^ 45) (hs : s.ok b) {h : H} (hx : h x = some (RD b s)) :
    ACalls Tryz.prog W0 114 [.v (.ptr x 0)] h fun r h' => r = .v (V.i (rCount b s).1) ∧ h' = h.upd x (RD b (rCount b s).2) := by
  have hok := rAny_ok hs
  have hle := hok.1.1
  have tail : ∀ s2 : RS, ((s2.e : Int) != 0) = false → s2.e = 0 := fun s2 h => by simpa using h
  have tail' : ∀ s2 : RS, ((s2.e : Int) != 0) = true → ¬ s2.e = 0 := fun s2 h => by simpa using h
  refine ACalls.of (C := CO [] fun _ => ([], [], 0)) (cOkO _ _) hP (fn := Tryz.f114) (by kernel_rfl) (by kernel_rfl) ?_
  refine (c_any W0 b s x hb hs hx).mono ?_
  rintro _ _ ⟨rfl, rfl⟩
  refine (c_left W0 b (rAny b s).2 x hb hle (H.upd_get _ _ _)).mono ?_
  rintro _ _ ⟨rfl, rfl⟩
  refine ⟨((b.length - (rAny b s).2.p : Nat) : Int), wrapU64 (by omega) (by omega), ?_⟩
  refine ⟨fun c1 => ?_, fun c1 => ?_⟩
  · replace c1 : b.length - (rAny b s).2.p < (rAny b s).1 := by
      have : ((b.length - (rAny b s).2.p : Nat) : Int) < ((rAny b s).1 : Int) := of_decide_eq_true c1
      omega
    refine (c_fail W0 b (rAny b s).2 8 x (H.upd_get _ _ _)).mono ?_
    rintro _ _ ⟨rfl, rfl⟩
    rw [H.upd_upd]
    refine ⟨_, ⟨H.upd_get _ _ _, trivial⟩, ?_⟩
    refine ⟨fun c5 => ?_, fun c5 => ?_⟩
    · replace c5 := tail' _ c5
      have e : rCount b s = (0, (rAny b s).2.fail 8) := by simp only [rCount]; rw [if_pos c1, if_neg c5]
      rw [e]
      exact ⟨rfl, rfl⟩
    · replace c5 := tail _ c5
      exfalso
      by_cases h0 : (rAny b s).2.e = 0
      · rw [RS.fail_pos h0] at c5; cases c5
      · rw [RS.fail_neg h0] at c5; exact h0 c5
  replace c1 : ¬ b.length - (rAny b s).2.p < (rAny b s).1 := by
    have : ¬ ((b.length - (rAny b s).2.p : Nat) : Int) < ((rAny b s).1 : Int) := of_decide_eq_false c1
    omega
  refine ⟨_, ⟨H.upd_get _ _ _, trivial⟩, ?_⟩
  refine ⟨fun c5 => ?_, fun c5 => ?_⟩
  · replace c5 := tail' _ c5
    have e : rCount b s = (0, (rAny b s).2) := by simp only [rCount]; rw [if_neg c1, if_neg c5]
    rw [e]
    exact ⟨rfl, rfl⟩
  · replace c5 := tail _ c5
    refine ⟨((rAny b s).1 : Int), wrapI64 (by omega) (by omega), ?_⟩
    have e : rCount b s = ((rAny b s).1, (rAny b s).2) := by simp only [rCount]; rw [if_neg c1, if_pos c5]
    rw [e]
    exact ⟨rfl, rfl⟩

theorem c_rtext (b : List UInt8) (s : RS) (x : Nat) (hb : b.length ≤ 2 ^ 45) (hs : s.ok b) {h : H} (hx : h x = some (RD b s)) :
    ACalls Tryz.prog W0 108 [.v (.ptr x 0)] h fun r h' => r = .v (V.s (rText b s).1) ∧ h' = h.upd x (RD b (rText b s).2) := by
  obtain ⟨n, s1, hc⟩ : ∃ n s1, rCount b s = (n, s1) := ⟨_, _, rfl⟩
  have hok := rCount_ok hs
  rw [hc] at hok
  have hle : s1.p + n ≤ b.length := hok.2
  have hl := bytes_length b
  have cc := c_rcount W0 b s x hb hs hx
  rw [hc] at cc
  have ht : rText b s = (⟨((b.drop s1.p).take n).toArray⟩, ⟨s1.p + n, s1.e⟩) := by unfold rText; rw [hc]
  have hby : ((V.bytes b).take ((s1.p : Int) + (n : Int)).toNat).drop ((s1.p : Int)).toNat = V.bytes ((b.drop s1.p).take n) := by
    have e1 : ((s1.p : Int) + (n : Int)).toNat = s1.p + n := by omega
    have e2 : (s1.p : Int).toNat = s1.p := by omega
    have e3 : s1.p + n - s1.p = n := by omega
    rw [bytes_take_drop, e1, e2, List.drop_take, e3]
  rw [ht]
  refine ACalls.of (C := CO [] fun i => match i with | 2 => ([0, 1, 2, 3, 4, 5, 6, 7, 8, 9, 10, 11, 12, 13, 14, 15, 16], [], 0) | _ => ([], [], 0)) (cOkO _ _) hP (fn := Tryz.f108) (by kernel_rfl) (by kernel_rfl) ?_
  refine cc.mono ?_
  rintro _ _ ⟨rfl, rfl⟩
  refine ⟨_, ⟨H.upd_get _ _ _, trivial⟩, ?_⟩
  refine ⟨_, ⟨H.upd_get _ _ _, trivial⟩, ?_⟩
  refine ⟨_, ⟨H.upd_get _ _ _, trivial⟩, ?_⟩
  refine ⟨by show inI64 ((s1.p : Int) + (n : Int)); unfold inI64; omega, ?_⟩
  refine ⟨⟨by show (0:Int) ≤ (s1.p : Int) + (n : Int); omega, by show (s1.p : Int) + (n : Int) ≤ ((V.bytes b).length : Int); omega⟩, ?_⟩
  refine ⟨⟨by show (0:Int) ≤ (s1.p : Int); omega, by show (s1.p : Int) ≤ ((((s1.p : Int) + (n : Int)).toNat : Nat) : Int); omega⟩, ?_⟩
  refine ⟨(b.drop s1.p).take n, hby, ?_⟩
  refine ⟨_, ⟨H.upd_get _ _ _, trivial⟩, ?_⟩
  refine ⟨by show inI64 ((s1.p : Int) + (n : Int)); unfold inI64; omega, ?_⟩
  refine ⟨rfl, _, H.upd_get _ _ _, ?_⟩
  refine ⟨rfl, ?_⟩
  exact H.upd_upd _ _ _ _

theorem c_rtruth (b : List UInt8) (s : RS) (x : Nat) (hb : b.length ≤ 2 ^ 45) (hs : s.ok b) {h : H} (hx : h x = some (RD b s)) :
    ACalls Tryz.prog W0 120 [.v (.ptr x 0)] h fun r h' => r = .v (V.b (rTruth b s).1) ∧ h' = h.upd x (RD b (rTruth b s).2) := by
  have hp := hs.1
  have hl := bytes_length b
  have tail : ∀ s2 : RS, ((s2.e : Int) != 0) = false → s2.e = 0 := fun s2 h => by simpa using h
  have tail' : ∀ s2 : RS, ((s2.e : Int) != 0) = true → ¬ s2.e = 0 := fun s2 h => by simpa using h
  refine ACalls.of (C := CO [] fun i => match i with | 5 => ([0, 1, 2, 3, 4, 5, 6, 7, 8, 9, 10], [], 0) | _ => ([], [], 0)) (cOkO _ _) hP (fn := Tryz.f120) (by kernel_rfl) (by kernel_rfl) ?_
  refine ⟨_, ⟨hx, trivial⟩, ?_⟩
  refine ⟨rfl, V.i ((b.length - s.p : Nat) : Int), fun hg => ?_, ?_⟩
  · refine (c_left W0 b s x hb hp (h := h.seen .full) hx).mono fun _ _ h => h
  have conv : ∀ y : Bool, y = (bif ((s.e : Int) == 0) then (((b.length - s.p : Nat) : Int) == 0) else false) → (y = true ↔ s.e = 0 ∧ s.p = b.length) := by
    rintro y rfl
    simp only [Bool.cond_false_right, Bool.and_eq_true, beq_iff_eq]
    omega
  refine ⟨fun c1 => ?_, fun c1 => ?_⟩
  · obtain ⟨h0, h1⟩ := (conv _ rfl).1 c1
    refine (c_fail W0 b s 8 x hx).mono ?_
    rintro _ _ ⟨rfl, rfl⟩
    refine ⟨_, ⟨H.upd_get _ _ _, trivial⟩, ?_⟩
    refine ⟨fun c5 => ?_, fun c5 => ?_⟩
    · have e : rTruth b s = (false, s.fail 8) := by unfold rTruth; rw [if_pos h0, if_pos h1, RS.fail_pos h0]
      rw [e]
      exact ⟨rfl, rfl⟩
    · replace c5 := tail _ c5
      rw [RS.fail_pos h0] at c5; cases c5
  replace c1 : ¬ (s.e = 0 ∧ s.p = b.length) := fun hh => Bool.false_ne_true (c1.symm.trans ((conv _ rfl).2 hh))
  refine ⟨_, ⟨hx, trivial⟩, ?_⟩
  refine ⟨fun c5 => ?_, fun c5 => ?_⟩
  · replace c5 := tail' _ c5
    have e : rTruth b s = (false, s) := by unfold rTruth; rw [if_neg c5]
    rw [e, H.upd_self hx]
    exact ⟨rfl, rfl⟩
  replace c5 := tail _ c5
  have hlt : s.p < b.length := by
    have : ¬ s.p = b.length := fun h => c1 ⟨c5, h⟩
    omega
  have e : rTruth b s = (decide ((b[s.p]?.getD 0).toNat = 1), if 1 < (b[s.p]?.getD 0).toNat then ⟨s.p + 1, 6⟩ else ⟨s.p + 1, 0⟩) := by
    unfold rTruth; rw [if_pos c5, if_neg (by omega)]
  have hdec : (((b[s.p]?.getD 0).toNat : Int) == 1) = decide ((b[s.p]?.getD 0).toNat = 1) := by
    by_cases hh : (b[s.p]?.getD 0).toNat = 1
    · rw [hh]; rfl
    · rw [decide_eq_false hh]; simp; omega
  refine ⟨_, ⟨hx, trivial⟩, ?_⟩
  refine ⟨_, ⟨hx, trivial⟩, ?_⟩
  refine ⟨V.u8 (b[s.p]?.getD 0), ⟨by show (0:Int) ≤ (s.p : Int); omega, ?_⟩, ?_⟩
  · show (V.bytes b)[((s.p : Nat) : Int).toNat]? = _
    rw [Int.toNat_natCast]; exact bytes_get b s.p hlt
  refine ⟨_, ⟨hx, trivial⟩, ?_⟩
  refine ⟨by show inI64 ((s.p : Int) + 1); unfold inI64; omega, ?_⟩
  refine ⟨rfl, _, hx, ?_⟩
  have hst : ∀ h : H, h.upd x (.cells [.v (.sl 1 (V.bytes b)), .v (V.i ((s.p : Int) + 1)), .v (V.i (s.e : Int))]) = h.upd x (RD b ⟨s.p + 1, 0⟩) := by
    intro h; rw [c5]; rfl
  refine ⟨fun c6 => ?_, fun c6 => ?_⟩
  · replace c6 : 1 < (b[s.p]?.getD 0).toNat := by
      have : (1 : Int) < ((b[s.p]?.getD 0).toNat : Int) := of_decide_eq_true c6
      omega
    refine (c_fail W0 b ⟨s.p + 1, 0⟩ 6 x (h := h.upd x (.cells [.v (.sl 1 (V.bytes b)), .v (V.i ((s.p : Int) + 1)), .v (V.i (s.e : Int))])) (by rw [hst]; exact H.upd_get _ _ _)).mono ?_
    rintro _ _ ⟨rfl, rfl⟩
    rw [e, if_pos c6]
    refine ⟨congrArg (fun y => A.v (V.b y)) hdec, ?_⟩
    exact H.upd_upd _ _ _ _
  · replace c6 : ¬ 1 < (b[s.p]?.getD 0).toNat := by
      have : ¬ (1 : Int) < ((b[s.p]?.getD 0).toNat : Int) := of_decide_eq_false c6
      omega
    rw [e, if_neg c6]
    exact ⟨congrArg (fun y => A.v (V.b y)) hdec, hst h⟩
end Go.AI

namespace Go.AI
open Go.Proofs Go
variable (W0 : World)
set_option maxRecDepth 20000
set_option maxHeartbeats 1000000

theorem c_rcell (b : List UInt8) (s : RS) (x : Nat) (hb : b.length ≤ 2 ^ 45) (hs : s.ok b) {h : H} (hx : h x = some (RD b s)) :
    ACalls Tryz.prog W0 116 [.v (.ptr x 0)] h fun r h' => r = .v (.agg (rCell b s).1.v) ∧ h' = h.upd x (RD b (rCell b s).2) := by
  obtain ⟨n, s1, e1⟩ : ∃ n s1, rNum b s = (n, s1) := ⟨_, _, rfl⟩
  obtain ⟨d, s2, e2⟩ : ∃ d s2, rTruth b s1 = (d, s2) := ⟨_, _, rfl⟩
  obtain ⟨t, s3, e3⟩ : ∃ t s3, rText b s2 = (t, s3) := ⟨_, _, rfl⟩
  obtain ⟨e, s4, e4⟩ : ∃ e s4, rNum b s3 = (e, s4) := ⟨_, _, rfl⟩
  have hs1 : s1.ok b := by have := (rNum_ok hs).1; rw [e1] at this; exact this
  have hs2 : s2.ok b := by have := rTruth_ok hs1; rw [e2] at this; exact this
  have hs3 : s3.ok b := by have := rText_ok hs2; rw [e3] at this; exact this
  have c1 := c_rnum W0 b s x hb hs hx; rw [e1] at c1
  have c2 := c_rtruth W0 b s1 x hb hs1 (H.upd_get h x (RD b s1)); rw [e2] at c2
  have c3 := c_rtext W0 b s2 x hb hs2 (H.upd_get (h.upd x (RD b s1)) x (RD b s2)); rw [e3] at c3
  have c4 := c_rnum W0 b s3 x hb hs3 (H.upd_get ((h.upd x (RD b s1)).upd x (RD b s2)) x (RD b s3)); rw [e4] at c4
  have kk : ∀ (q : Cell × RS), rCell b s = q → (A.v (.agg q.1.v) = A.v (.agg (rCell b s).1.v) ∧ h.upd x (RD b q.2) = h.upd x (RD b (rCell b s).2)) := by rintro q rfl; exact ⟨rfl, rfl⟩
  refine ACalls.of (C := CO [] fun _ => ([], [], 0)) (cOkO _ _) hP (fn := Tryz.f116) (by kernel_rfl) (by kernel_rfl) ?_
  refine c1.mono ?_
  rintro _ _ ⟨rfl, rfl⟩
  refine ⟨fun q1 => ?_, fun q1 => ?_⟩
  · replace q1 : n = 0 := by
      have : ((n : Int) == 0) = true := q1
      simpa using this
    have := kk (⟨⟨#[]⟩, false, 0, 0⟩, s1) (by simp only [rCell, e1, if_pos q1])
    subst q1
    exact this
  replace q1 : ¬ n = 0 := by
    have : ((n : Int) == 0) = false := q1
    simpa using this
  refine c2.mono ?_
  rintro _ _ ⟨rfl, rfl⟩
  refine ⟨fun q2 => ?_, fun q2 => ?_⟩
  · replace q2 : d = false := not_t q2
    refine c3.mono ?_
    rintro _ _ ⟨rfl, rfl⟩
    refine c4.mono ?_
    rintro _ _ ⟨rfl, rfl⟩
    have := kk (⟨t, false, n, e⟩, s4) (by simp only [rCell, e1, if_neg q1, e2, q2, e3, e4]; rfl)
    subst q2
    have e9 : (((h.upd x (RD b s1)).upd x (RD b s2)).upd x (RD b s3)).upd x (RD b s4) = h.upd x (RD b s4) := by rw [H.upd_upd, H.upd_upd, H.upd_upd]
    exact ⟨this.1, e9.trans this.2⟩
  · replace q2 : d = true := not_f q2
    have := kk (⟨⟨#[]⟩, true, n, 0⟩, s2) (by simp only [rCell, e1, if_neg q1, e2, q2, if_true])
    subst q2
    exact ⟨this.1, (H.upd_upd h x (RD b s1) (RD b s2)).trans this.2⟩

theorem c_rcol (b : List UInt8) (s : RS) (x : Nat) (hb : b.length ≤ 2 ^ 45) (hs : s.ok b) {h : H} (hx : h x = some (RD b s)) :
    ACalls Tryz.prog W0 118 [.v (.ptr x 0)] h fun r h' => r = .v (.agg (rCol b s).1.v) ∧ h' = h.upd x (RD b (rCol b s).2) := by
  obtain ⟨t, s1, e1⟩ : ∃ t s1, rText b s = (t, s1) := ⟨_, _, rfl⟩
  obtain ⟨c, s2, e2⟩ : ∃ c s2, rCell b s1 = (c, s2) := ⟨_, _, rfl⟩
  have hs1 : s1.ok b := by have := rText_ok hs; rw [e1] at this; exact this
  have c1 := c_rtext W0 b s x hb hs hx; rw [e1] at c1
  have c2 := c_rcell W0 b s1 x hb hs1 (H.upd_get h x (RD b s1)); rw [e2] at c2
  have e : rCol b s = (⟨t, c⟩, s2) := by simp only [rCol, e1, e2]
  rw [e]
  refine ACalls.of (C := CO [] fun _ => ([], [], 0)) (cOkO _ _) hP (fn := Tryz.f118) (by kernel_rfl) (by kernel_rfl) ?_
  refine c1.mono ?_
  rintro _ _ ⟨rfl, rfl⟩
  refine c2.mono ?_
  rintro _ _ ⟨rfl, rfl⟩
  refine ⟨rfl, ?_⟩
  exact H.upd_upd _ _ _ _
end Go.AI

namespace Go.AI
open Go.Proofs Go
variable (W0 : World)
set_option maxRecDepth 20000
set_option maxHeartbeats 1000000

theorem rMany_len {α : Type} (one : RS → α × RS) : ∀ (n : Nat) (s : RS), (rMany one n s).1.length ≤ n := by
  intro n
  induction n with
  | zero => intro s; exact Nat.le_refl 0
  | succ n ih =>
    intro s; simp only [rMany]
    split
    · simp only [List.length_cons]; have := ih (one s).2; omega
    · exact Nat.zero_le _

theorem c_cols (b : List UInt8) (s : RS) (x : Nat) (hb : b.length ≤ 2 ^ 32) (hs : s.ok b) {h : H} (hx : h x = some (RD b s)) :
    ACalls Tryz.prog W0 117 [.v (.ptr x 0), .v (.lit (.func (.func 118) #[] #[]))] h fun r h' =>
      r = .own 5 ((rList b (rCol b) s).1.map fun c => .agg c.v) ∧ h' = h.upd x (RD b (rList b (rCol b) s).2) := by
  obtain ⟨n, s1, e1⟩ : ∃ n s1, rCount b s = (n, s1) := ⟨_, _, rfl⟩
  have hok := rCount_ok hs; rw [e1] at hok
  have hs1 : s1.ok b := hok.1
  have hn : s1.p + n ≤ b.length := hok.2
  have c1 := c_rcount W0 b s x (by omega) hs hx; rw [e1] at c1
  have el : rList b (rCol b) s = rMany (rCol b) n s1 := by simp only [rList, e1]
  rw [el]
  refine ACalls.of (C := CO [20, 26] fun _ => ([], [], 0)) (cOkO _ _) hP (fn := Tryz.f117) (by kernel_rfl) (by kernel_rfl) ?_
  refine c1.mono ?_
  rintro _ _ ⟨rfl, rfl⟩
  refine ⟨0, [0, 1, 5, 6], 0, fun m xs l h2 => l = [] ∧ ∃ (acc : List V) (k : Int) (L : List Col) (s2 : RS), xs = [.v (.ptr x 0), .v (.lit (.func (.func 118) #[] #[])), .own 5 acc, .v (V.i k)] ∧ h2 = h.upd x (RD b s2) ∧
      k = (m : Nat) ∧ acc = L.map (fun c => .agg c.v) ∧ s2.ok b ∧ L.length + m = n ∧ L ++ (rMany (rCol b) m s2).1 = (rMany (rCol b) n s1).1 ∧ (rMany (rCol b) m s2).2 = (rMany (rCol b) n s1).2,
    ⟨n, rfl, [], _, [], s1, rfl, rfl, rfl, rfl, hs1, by show 0 + n = n; omega, rfl, rfl⟩, ?_⟩
  rintro m xs l h2 ⟨rfl, acc, k, L, s2, rfl, rfl, rfl, rfl, hs2, hL, hl1, hl2⟩
  replace hL : L.length + (m : Nat) = n := hL
  refine ⟨_, fun _ => ⟨H.upd_get _ _ _, trivial⟩, ?_⟩
  have conv : ∀ y : Bool, y = (bif decide ((0:Int) < ((m : Nat) : Int)) then ((s2.e : Int) == 0) else false) → (y = true ↔ 0 < (m : Nat) ∧ s2.e = 0) := by
    rintro y rfl
    simp only [Bool.cond_false_right, Bool.and_eq_true, beq_iff_eq, decide_eq_true_eq]
    omega
  refine ⟨fun c2 => ?_, fun c2 => ?_⟩
  · obtain ⟨g1, g2⟩ := (conv _ rfl).1 c2
    cases m with
    | zero => omega
    | succ m =>
    have hm : rMany (rCol b) (m + 1) s2 = ((rCol b s2).1 :: (rMany (rCol b) m (rCol b s2).2).1, (rMany (rCol b) m (rCol b s2).2).2) := by
      simp only [rMany]; rw [if_pos g2]
    rw [hm] at hl1 hl2
    refine (c_rcol W0 b s2 x (by omega) hs2 (H.upd_get _ _ _)).mono ?_
    rintro _ _ ⟨rfl, rfl⟩
    refine ⟨?_, _, rfl, ?_⟩
    · show ((L.map fun c => V.agg c.v).length + 1) * 56 ≤ 70368744177664
      rw [List.length_map]; omega
    refine ⟨by show inI64 (((m + 1 : Nat) : Int) - 1); unfold inI64; omega, ?_⟩
    refine ⟨m, by show m < m + 1; omega, rfl, _, _, L ++ [(rCol b s2).1], (rCol b s2).2, rfl, H.upd_upd _ _ _ _, by omega, by simp; rfl, rCol_ok hs2, by simp; omega, ?_, hl2⟩
    rw [← hl1]; simp
  · replace c2 : ¬ (0 < (m : Nat) ∧ s2.e = 0) := fun hh => Bool.false_ne_true (c2.symm.trans ((conv _ rfl).2 hh))
    have hm : rMany (rCol b) m s2 = ([], s2) := by
      cases m with
      | zero => rfl
      | succ m => simp only [rMany]; rw [if_neg (fun h0 => c2 ⟨Nat.succ_pos m, h0⟩)]
    rw [hm] at hl1 hl2
    rw [← hl1, ← hl2]
    simp only [List.append_nil]
    exact ⟨rfl, rfl⟩

theorem c_rrow (b : List UInt8) (s : RS) (x : Nat) (hb : b.length ≤ 2 ^ 32) (hs : s.ok b) {h : H} (hx : h x = some (RD b s)) :
    ACalls Tryz.prog W0 111 [.v (.ptr x 0)] h fun r h' => r = .v (.agg (rRow b s).1.v) ∧ h' = h.upd x (RD b (rRow b s).2) := by
  obtain ⟨k, s1, e1⟩ : ∃ n s1, rText b s = (n, s1) := ⟨_, _, rfl⟩
  obtain ⟨c, s2, e2⟩ : ∃ d s2, rCell b s1 = (d, s2) := ⟨_, _, rfl⟩
  obtain ⟨g, s3, e3⟩ : ∃ t s3, rNum b s2 = (t, s3) := ⟨_, _, rfl⟩
  obtain ⟨d, s4, e4⟩ : ∃ e s4, rNum b s3 = (e, s4) := ⟨_, _, rfl⟩
  obtain ⟨l, s5, e5⟩ : ∃ e s5, rList b (rCol b) s4 = (e, s5) := ⟨_, _, rfl⟩
  have hs1 : s1.ok b := by have := rText_ok hs; rw [e1] at this; exact this
  have hs2 : s2.ok b := by have := rCell_ok hs1; rw [e2] at this; exact this
  have hs3 : s3.ok b := by have := (rNum_ok hs2).1; rw [e3] at this; exact this
  have hs4 : s4.ok b := by have := (rNum_ok hs3).1; rw [e4] at this; exact this
  have c1 := c_rtext W0 b s x (by omega) hs hx; rw [e1] at c1
  have c2 := c_rcell W0 b s1 x (by omega) hs1 (H.upd_get h x (RD b s1)); rw [e2, H.upd_upd] at c2
  have c3 := c_rnum W0 b s2 x (by omega) hs2 (H.upd_get h x (RD b s2)); rw [e3, H.upd_upd] at c3
  have c4 := c_rnum W0 b s3 x (by omega) hs3 (H.upd_get h x (RD b s3)); rw [e4, H.upd_upd] at c4
  have c5 := c_cols W0 b s4 x hb hs4 (H.upd_get h x (RD b s4)); rw [e5, H.upd_upd] at c5
  have e : rRow b s = (⟨k, c, g, d, l⟩, s5) := by simp only [rRow, e1, e2, e3, e4, e5]
  rw [e]
  refine ACalls.of (C := CO [] fun _ => ([], [], 0)) (cOkO _ _) hP (fn := Tryz.f111) (by kernel_rfl) (by kernel_rfl) ?_
  refine c1.mono ?_
  rintro _ _ ⟨rfl, rfl⟩
  refine c2.mono ?_
  rintro _ _ ⟨rfl, rfl⟩
  refine c3.mono ?_
  rintro _ _ ⟨rfl, rfl⟩
  refine c4.mono ?_
  rintro _ _ ⟨rfl, rfl⟩
  refine c5.mono ?_
  rintro _ _ ⟨rfl, rfl⟩
  exact ⟨rfl, rfl⟩
end Go.AI

namespace Go.AI
open Go.Proofs Go
variable (W0 : World)
set_option maxRecDepth 20000
set_option maxHeartbeats 1000000

theorem c_rows (b : List UInt8) (s : RS) (x : Nat) (hb : b.length ≤ 2 ^ 32) (hs : s.ok b) {h : H} (hx : h x = some (RD b s)) :
    ACalls Tryz.prog W0 110 [.v (.ptr x 0), .v (.lit (.func (.func 111) #[] #[]))] h fun r h' =>
      r = .own 8 ((rList b (rRow b) s).1.map fun c => .agg c.v) ∧ h' = h.upd x (RD b (rList b (rRow b) s).2) := by
  obtain ⟨n, s1, e1⟩ : ∃ n s1, rCount b s = (n, s1) := ⟨_, _, rfl⟩
  have hok := rCount_ok hs; rw [e1] at hok
  have hs1 : s1.ok b := hok.1
  have hn : s1.p + n ≤ b.length := hok.2
  have c1 := c_rcount W0 b s x (by omega) hs hx; rw [e1] at c1
  have el : rList b (rRow b) s = rMany (rRow b) n s1 := by simp only [rList, e1]
  rw [el]
  refine ACalls.of (C := CO [20, 26] fun _ => ([], [], 0)) (cOkO _ _) hP (fn := Tryz.f110) (by kernel_rfl) (by kernel_rfl) ?_
  refine c1.mono ?_
  rintro _ _ ⟨rfl, rfl⟩
  refine ⟨0, [0, 1, 5, 6], 0, fun m xs l h2 => l = [] ∧ ∃ (acc : List V) (k : Int) (L : List Row) (s2 : RS), xs = [.v (.ptr x 0), .v (.lit (.func (.func 111) #[] #[])), .own 8 acc, .v (V.i k)] ∧ h2 = h.upd x (RD b s2) ∧
      k = (m : Nat) ∧ acc = L.map (fun c => .agg c.v) ∧ s2.ok b ∧ L.length + m = n ∧ L ++ (rMany (rRow b) m s2).1 = (rMany (rRow b) n s1).1 ∧ (rMany (rRow b) m s2).2 = (rMany (rRow b) n s1).2,
    ⟨n, rfl, [], _, [], s1, rfl, rfl, rfl, rfl, hs1, by show 0 + n = n; omega, rfl, rfl⟩, ?_⟩
  rintro m xs l h2 ⟨rfl, acc, k, L, s2, rfl, rfl, rfl, rfl, hs2, hL, hl1, hl2⟩
  replace hL : L.length + (m : Nat) = n := hL
  refine ⟨_, fun _ => ⟨H.upd_get _ _ _, trivial⟩, ?_⟩
  have conv : ∀ y : Bool, y = (bif decide ((0:Int) < ((m : Nat) : Int)) then ((s2.e : Int) == 0) else false) → (y = true ↔ 0 < (m : Nat) ∧ s2.e = 0) := by
    rintro y rfl
    simp only [Bool.cond_false_right, Bool.and_eq_true, beq_iff_eq, decide_eq_true_eq]
    omega
  refine ⟨fun c2 => ?_, fun c2 => ?_⟩
  · obtain ⟨g1, g2⟩ := (conv _ rfl).1 c2
    cases m with
    | zero => omega
    | succ m =>
    have hm : rMany (rRow b) (m + 1) s2 = ((rRow b s2).1 :: (rMany (rRow b) m (rRow b s2).2).1, (rMany (rRow b) m (rRow b s2).2).2) := by
      simp only [rMany]; rw [if_pos g2]
    rw [hm] at hl1 hl2
    refine (c_rrow W0 b s2 x hb hs2 (H.upd_get _ _ _)).mono ?_
    rintro _ _ ⟨rfl, rfl⟩
    refine ⟨?_, _, rfl, ?_⟩
    · show ((L.map fun c => V.agg c.v).length + 1) * 96 ≤ 70368744177664
      rw [List.length_map]; omega
    refine ⟨by show inI64 (((m + 1 : Nat) : Int) - 1); unfold inI64; omega, ?_⟩
    refine ⟨m, by show m < m + 1; omega, rfl, _, _, L ++ [(rRow b s2).1], (rRow b s2).2, rfl, H.upd_upd _ _ _ _, by omega, by simp; rfl, rRow_ok hs2, by simp; omega, ?_, hl2⟩
    rw [← hl1]; simp
  · replace c2 : ¬ (0 < (m : Nat) ∧ s2.e = 0) := fun hh => Bool.false_ne_true (c2.symm.trans ((conv _ rfl).2 hh))
    have hm : rMany (rRow b) m s2 = ([], s2) := by
      cases m with
      | zero => rfl
      | succ m => simp only [rMany]; rw [if_neg (fun h0 => c2 ⟨Nat.succ_pos m, h0⟩)]
    rw [hm] at hl1 hl2
    rw [← hl1, ← hl2]
    simp only [List.append_nil]
    exact ⟨rfl, rfl⟩

theorem c_rend (b : List UInt8) (s : RS) (x : Nat) (hb : b.length ≤ 2 ^ 45) (hs : s.ok b) {h : H} (hx : h x = some (RD b s)) :
    ACalls Tryz.prog W0 112 [.v (.ptr x 0)] h fun r h' => r = .v (.tup []) ∧ h' = h.upd x (RD b (rEnd b s)) := by
  have hp := hs.1
  refine ACalls.of (C := CO [] fun _ => ([], [], 0)) (cOkO _ _) hP (fn := Tryz.f112) (by kernel_rfl) (by kernel_rfl) ?_
  refine (c_left W0 b s x hb hs.1 hx).mono ?_
  rintro _ _ ⟨rfl, rfl⟩
  refine ⟨fun c1 => ?_, fun c1 => ?_⟩
  · replace c1 : s.p < b.length := by
      have : (0 : Int) < ((b.length - s.p : Nat) : Int) := of_decide_eq_true c1
      omega
    refine (c_fail W0 b s 6 x hx).mono ?_
    rintro _ _ ⟨rfl, rfl⟩
    have e : rEnd b s = s.fail 6 := by unfold rEnd; rw [if_pos c1]
    rw [e]
    exact ⟨rfl, rfl⟩
  · replace c1 : ¬ s.p < b.length := by
      have : ¬ (0 : Int) < ((b.length - s.p : Nat) : Int) := of_decide_eq_false c1
      omega
    have e : rEnd b s = s := by unfold rEnd; rw [if_neg c1]
    rw [e, H.upd_self hx]
    exact ⟨rfl, rfl⟩

theorem c_rpart (b : List UInt8) (s : RS) (x : Nat) (hb : b.length ≤ 2 ^ 32) (hs : s.ok b) {h : H} (hx : h x = some (RD b s)) :
    ACalls Tryz.prog W0 103 [.v (.ptr x 0)] h fun r h' => r = .v (.agg (rPart b s).1.v) ∧ h' = h.upd x (RD b (rPart b s).2) := by
  obtain ⟨k, s1, e1⟩ : ∃ n s1, rText b s = (n, s1) := ⟨_, _, rfl⟩
  obtain ⟨g, s2, e2⟩ : ∃ t s2, rNum b s1 = (t, s2) := ⟨_, _, rfl⟩
  obtain ⟨l, s3, e3⟩ : ∃ e s3, rList b (rRow b) s2 = (e, s3) := ⟨_, _, rfl⟩
  have hs1 : s1.ok b := by have := rText_ok hs; rw [e1] at this; exact this
  have hs2 : s2.ok b := by have := (rNum_ok hs1).1; rw [e2] at this; exact this
  have hs3 : s3.ok b := by have := rList_ok (one := rRow b) (fun s hs => rRow_ok hs) hs2; rw [e3] at this; exact this
  have c1 := c_rtext W0 b s x (by omega) hs hx; rw [e1] at c1
  have c2 := c_rnum W0 b s1 x (by omega) hs1 (H.upd_get h x (RD b s1)); rw [e2, H.upd_upd] at c2
  have c3 := c_rows W0 b s2 x hb hs2 (H.upd_get h x (RD b s2)); rw [e3, H.upd_upd] at c3
  have c4 := c_rend W0 b s3 x (by omega) hs3 (H.upd_get h x (RD b s3)); rw [H.upd_upd] at c4
  have e : rPart b s = (⟨k, g, l⟩, rEnd b s3) := by simp only [rPart, e1, e2, e3]
  rw [e]
  refine ACalls.of (C := CO [] fun _ => ([], [], 0)) (cOkO _ _) hP (fn := Tryz.f103) (by kernel_rfl) (by kernel_rfl) ?_
  refine c1.mono ?_
  rintro _ _ ⟨rfl, rfl⟩
  refine c2.mono ?_
  rintro _ _ ⟨rfl, rfl⟩
  refine c3.mono ?_
  rintro _ _ ⟨rfl, rfl⟩
  refine c4.mono ?_
  rintro _ _ ⟨rfl, rfl⟩
  exact ⟨rfl, rfl⟩

theorem c_read (b : List UInt8) (hb : b.length ≤ 2 ^ 32) (h : H) :
    ACalls Tryz.prog W0 102 [.v (.sl 1 (V.bytes b))] h fun r h' => ∃ x, r = .v (.ptr x 0) ∧ h x = none ∧ h' = h.upd x (RD b (if 262144 < b.length then ⟨0, 2⟩ else ⟨0, 0⟩)) := by
  have hl := bytes_length b
  refine ACalls.of (C := CO [] fun _ => ([], [], 0)) (cOkO _ _) hP (fn := Tryz.f102) (by kernel_rfl) (by kernel_rfl) ?_
  refine ⟨fun c1 => ?_, fun c1 => ?_⟩
  · replace c1 : 262144 < b.length := by
      have : (262144 : Int) < ((V.bytes b).length : Int) := of_decide_eq_true c1
      omega
    intro x hx
    refine (c_fail W0 b ⟨0, 0⟩ 2 x (H.upd_get _ _ _)).mono ?_
    rintro _ _ ⟨rfl, rfl⟩
    rw [if_pos c1]
    exact ⟨x, rfl, hx, H.upd_upd _ _ _ _⟩
  · replace c1 : ¬ 262144 < b.length := by
      have : ¬ (262144 : Int) < ((V.bytes b).length : Int) := of_decide_eq_false c1
      omega
    intro x hx
    rw [if_neg c1]
    exact ⟨x, rfl, hx, rfl⟩

theorem c_Read (b : List UInt8) (hb : b.length ≤ 2 ^ 32) (h : H) :
    ACalls Tryz.prog W0 100 [.v (.sl 1 (V.bytes b))] h fun r h' => r = .v (.tup [.agg (readPart b).1.v, V.i (readPart b).2]) ∧ h' = h := by
  have hs : RS.ok b (if 262144 < b.length then ⟨0, 2⟩ else ⟨0, 0⟩) := by
    split
    · exact ⟨Nat.zero_le _, by show (2:Nat) < 16; decide⟩
    · exact ⟨Nat.zero_le _, by show (0:Nat) < 16; decide⟩
  have er : ∀ s0 : RS, (if 262144 < b.length then (⟨0, 2⟩ : RS) else ⟨0, 0⟩) = s0 → readPart b = ((rPart b s0).1, (rPart b s0).2.e) := by
    rintro s0 rfl; rfl
  obtain ⟨s0, es⟩ : ∃ s0 : RS, (if 262144 < b.length then (⟨0, 2⟩ : RS) else ⟨0, 0⟩) = s0 := ⟨_, rfl⟩
  have c0 := c_read W0 b hb h
  rw [es] at hs c0
  rw [er s0 es]
  refine ACalls.forget (Q := fun r h' => r = .v (.tup [.agg (rPart b s0).1.v, V.i (rPart b s0).2.e]) ∧ ∃ x o, h x = none ∧ h' = h.upd x o) ?_ (by rintro a h' ⟨rfl, x, o, hx, rfl⟩; exact ⟨h, H.le_upd hx, rfl, rfl⟩)
  refine ACalls.of (C := CO [] fun i => match i with | 3 => ([0, 1, 2, 3, 4, 5, 6], [], 2) | _ => ([], [], 0)) (cOkO _ _) hP (fn := Tryz.f100) (by kernel_rfl) (by kernel_rfl) ?_
  refine c0.mono ?_
  rintro _ _ ⟨x, rfl, hx, rfl⟩
  refine (c_rpart W0 b s0 x hb hs (H.upd_get _ _ _)).mono ?_
  rintro _ _ ⟨rfl, rfl⟩
  refine ⟨0, ?_⟩
  refine ⟨_, ⟨H.upd_get _ _ _, trivial⟩, ?_⟩
  exact ⟨rfl, x, _, hx, H.upd_upd _ _ _ _⟩
end Go.AI

namespace Go.AI
open Go.Proofs Go
variable (W0 : World)
set_option maxRecDepth 20000
set_option maxHeartbeats 1000000

theorem checkPart_len {p : Part} (hc : checkPart p = true) : p.rows.length ≤ 100 ∧ ∀ r ∈ p.rows, r.cols.length ≤ 8 := by
  simp only [checkPart, Bool.and_eq_true, decide_eq_true_eq] at hc
  refine ⟨hc.1.2, ?_⟩
  have : ∀ (l : List Row) (o : Option Str), rowsOK o l = true → ∀ r ∈ l, r.cols.length ≤ 8 := by
    intro l
    induction l with
    | nil => intro o _ r hr; cases hr
    | cons a l ih =>
      intro o h r hr
      simp only [rowsOK, Bool.and_eq_true] at h
      rcases List.mem_cons.1 hr with rfl | hr
      · have h1 := h.1.1
        simp only [checkRow, Bool.and_eq_true, decide_eq_true_eq] at h1
        exact h1.1.2
      · exact ih _ h.2 r hr
  exact this _ _ hc.2

/-- A partition as bytes, if it may be. -/
def putPart (p : Part) : List UInt8 × Int := if checkPart p then (if 262144 < (encPart p).length then ([], 2) else (encPart p, 0)) else ([], 1)
theorem c_Part (hD : DecC W0) (p : Part) (hp : p.sized) (hb : checkPart p = true → (encPart p).length ≤ 2 ^ 45) (h : H) :
    ACalls Tryz.prog W0 98 [.v (.agg p.v)] h fun r h' => r = .v (.tup [.sl 1 (V.bytes (putPart p).1), V.i (putPart p).2]) ∧ h' = h := by
  have kk : ∀ q : List UInt8 × Int, putPart p = q → (A.v (.tup [.sl 1 (V.bytes q.1), V.i q.2]) = A.v (.tup [.sl 1 (V.bytes (putPart p).1), V.i (putPart p).2])) := by rintro q rfl; rfl
  have cc := c_checkPart W0 hD p hp
  obtain ⟨key, gone, rows⟩ := p
  refine ACalls.of (C := CO [13] fun _ => ([], [], 0)) (cOkO _ _) hP (fn := Tryz.f98) (by kernel_rfl) (by kernel_rfl) ?_
  refine (cc _).mono ?_
  rintro _ _ ⟨rfl, rfl⟩
  refine ⟨fun c1 => ?_, fun c1 => ?_⟩
  · replace c1 : checkPart ⟨key, gone, rows⟩ = false := not_t c1
    exact ⟨kk ([], 1) (by unfold putPart; rw [if_neg (by rw [c1]; exact Bool.false_ne_true)]), rfl⟩
  replace c1 : checkPart ⟨key, gone, rows⟩ = true := not_f c1
  have hl := checkPart_len c1
  refine (c_whole W0 ⟨key, gone, rows⟩ (checkPart_pos c1) (hb c1) (by omega) (fun r hr => by have := hl.2 r hr; omega) _).mono ?_
  rintro _ _ ⟨rfl, rfl⟩
  have hbl := bytes_length (encPart ⟨key, gone, rows⟩)
  refine ⟨fun c2 => ?_, fun c2 => ?_⟩
  · replace c2 : 262144 < (encPart ⟨key, gone, rows⟩).length := by
      have : (262144 : Int) < ((V.bytes (encPart ⟨key, gone, rows⟩)).length : Int) := of_decide_eq_true c2
      omega
    exact ⟨kk ([], 2) (by unfold putPart; rw [if_pos c1, if_pos c2]), rfl⟩
  · replace c2 : ¬ 262144 < (encPart ⟨key, gone, rows⟩).length := by
      have : ¬ (262144 : Int) < ((V.bytes (encPart ⟨key, gone, rows⟩)).length : Int) := of_decide_eq_false c2
      omega
    exact ⟨kk (encPart ⟨key, gone, rows⟩, 0) (by unfold putPart; rw [if_pos c1, if_neg c2]), rfl⟩

theorem c_in (v most : Int) (h : H) : ACalls Tryz.prog W0 27 [.v (V.i v), .v (V.i most)] h fun r h' => r = .v (V.b (inB v most)) ∧ h' = h := by
  refine ACalls.of (C := CO [] fun _ => ([], [], 0)) (cOkO _ _) hP (fn := Tryz.f27) (by kernel_rfl) (by kernel_rfl) ?_
  exact ⟨rfl, rfl⟩
theorem c_chk1 (s : Str) (h : H) : ACalls Tryz.prog W0 29 [.v (V.s s)] h fun r h' => r = .v (V.b (!decide (s.size ≤ 100))) ∧ h' = h := by
  refine ACalls.of (C := CO [] fun _ => ([], [], 0)) (cOkO _ _) hP (fn := Tryz.f29) (by kernel_rfl) (by kernel_rfl) ?_
  exact ⟨congrArg (fun x => A.v (V.b x)) (dec_lt s.size 100 100 rfl), rfl⟩
def Mut.sized (m : Mut) : Prop := m.table.size ≤ 2 ^ 40 ∧ m.part.sized
theorem c_chk2 (hD : DecC W0) (m : Mut) (hm : m.sized) (h : H) : ACalls Tryz.prog W0 31 [.v (.agg m.v)] h fun r h' => r = .v (V.b (!(isName m.table && checkPart m.part))) ∧ h' = h := by
  obtain ⟨t, k, g, rows⟩ := m
  refine ACalls.of (C := CO [] fun _ => ([], [], 0)) (cOkO _ _) hP (fn := Tryz.f31) (by kernel_rfl) (by kernel_rfl) ?_
  refine (c_Name W0 hD t hm.1 _).mono ?_
  rintro _ _ ⟨rfl, rfl⟩
  refine ⟨rfl, V.b (checkPart ⟨k, g, rows⟩), fun hg => c_checkPart W0 hD ⟨k, g, rows⟩ hm.2 _, ?_⟩
  refine ⟨congrArg (fun x => A.v (V.b x)) ?_, rfl⟩
  show (bif !isName t then true else !checkPart ⟨k, g, rows⟩) = !(isName t && checkPart ⟨k, g, rows⟩)
  cases isName t <;> cases checkPart ⟨k, g, rows⟩ <;> rfl

theorem c_idx1 (l : List Str) (hl : l.length ≤ 2 ^ 45) (h : H) :
    ACalls Tryz.prog W0 42 [.v (.sl 1 (l.map V.s)), .v (.lit (.func (.func 29) #[] #[]))] h fun r h' => ∃ n : Int, r = .v (V.i n) ∧ decide (0 ≤ n) = l.any (fun s => !decide (s.size ≤ 100)) ∧ h' = h := by
  have hcl : (l.map V.s).length = l.length := List.length_map ..
  refine ACalls.of (C := CO [] fun _ => ([], [], 0)) (cOkO _ _) hP (fn := Tryz.f42) (by kernel_rfl) (by kernel_rfl) ?_
  refine ⟨0, [0, 1, 7, 8], 0, fun m xs lo h2 => lo = [] ∧ ∃ (d r : List Str) (k n : Int), xs = [.v (.sl 1 (l.map V.s)), .v (.lit (.func (.func 29) #[] #[])), .v (V.i n), .v (V.i k)] ∧ h2 = h ∧ m = r.length ∧ l = d ++ r ∧ k = d.length ∧ n = l.length ∧ d.any (fun s => !decide (s.size ≤ 100)) = false,
    ⟨l.length, rfl, [], l, _, _, rfl, rfl, rfl, rfl, rfl, by rw [← hcl], rfl⟩, ?_⟩
  rintro m xs lo h2 ⟨rfl, d, r, k, n, rfl, rfl, rfl, hd, rfl, rfl, hany⟩
  have hdl : l.length = d.length + r.length := by rw [hd, List.length_append]
  refine ⟨fun c6 => ?_, fun c6 => ?_⟩
  · replace c6 : (d.length : Int) < (l.length : Int) := of_decide_eq_true c6
    cases r with
    | nil => exact absurd hdl (by simp only [List.length_nil]; omega)
    | cons c r =>
    have hget : (l.map V.s)[d.length]? = some (V.s c) := by rw [hd]; exact map_get _ d c r
    simp only [List.length_cons] at hdl
    refine ⟨V.s c, ⟨by show (0:Int) ≤ (d.length : Int); omega, ?_⟩, ?_⟩
    · show (l.map V.s)[((d.length : Nat) : Int).toNat]? = _
      rw [Int.toNat_natCast]; exact hget
    refine (c_chk1 W0 c _).mono ?_
    rintro _ _ ⟨rfl, rfl⟩
    refine ⟨fun c3 => ?_, fun c3 => ?_⟩
    · replace c3 : (!decide (c.size ≤ 100)) = true := c3
      refine ⟨_, rfl, ?_, rfl⟩
      have e1 : decide ((0:Int) ≤ (d.length : Int)) = true := decide_eq_true (by omega)
      rw [e1, hd, List.any_append, List.any_cons, c3]; simp
    · replace c3 : (!decide (c.size ≤ 100)) = false := c3
      refine ⟨by show inI64 ((d.length : Int) + 1); unfold inI64; omega, ?_⟩
      refine ⟨r.length, by show r.length < r.length + 1; omega, rfl, d ++ [c], r, _, _, rfl, rfl, rfl, by rw [hd]; simp, by simp, rfl, ?_⟩
      rw [List.any_append, hany, List.any_cons, c3]; rfl
  · replace c6 : ¬ (d.length : Int) < (l.length : Int) := of_decide_eq_false c6
    cases r with
    | cons c r => exact absurd hdl (by simp only [List.length_cons]; omega)
    | nil =>
    refine ⟨_, rfl, ?_, rfl⟩
    rw [hd, List.append_nil, hany]; rfl
theorem c_has1 (l : List Str) (hl : l.length ≤ 2 ^ 45) (h : H) :
    ACalls Tryz.prog W0 28 [.v (.sl 1 (l.map V.s)), .v (.lit (.func (.func 29) #[] #[]))] h fun r h' => r = .v (V.b (l.any (fun s => !decide (s.size ≤ 100)))) ∧ h' = h := by
  refine ACalls.of (C := CO [] fun _ => ([], [], 0)) (cOkO _ _) hP (fn := Tryz.f28) (by kernel_rfl) (by kernel_rfl) ?_
  refine (c_idx1 W0 l hl _).mono ?_
  rintro _ _ ⟨n, rfl, hn, rfl⟩
  exact ⟨congrArg (fun x => A.v (V.b x)) hn, rfl⟩

theorem c_idx2 (hD : DecC W0) (l : List Mut) (hl : l.length ≤ 2 ^ 45) (hs : ∀ m ∈ l, m.sized) (h : H) :
    ACalls Tryz.prog W0 43 [.v (.sl 4 (l.map fun m => .agg m.v)), .v (.lit (.func (.func 31) #[] #[]))] h fun r h' => ∃ n : Int, r = .v (V.i n) ∧ decide (0 ≤ n) = l.any (fun m => !(isName m.table && checkPart m.part)) ∧ h' = h := by
  have hcl : (l.map fun m => V.agg m.v).length = l.length := List.length_map ..
  refine ACalls.of (C := CO [] fun _ => ([], [], 0)) (cOkO _ _) hP (fn := Tryz.f43) (by kernel_rfl) (by kernel_rfl) ?_
  refine ⟨0, [0, 1, 7, 8], 0, fun m xs lo h2 => lo = [] ∧ ∃ (d r : List Mut) (k n : Int), xs = [.v (.sl 4 (l.map fun m => .agg m.v)), .v (.lit (.func (.func 31) #[] #[])), .v (V.i n), .v (V.i k)] ∧ h2 = h ∧ m = r.length ∧ l = d ++ r ∧ k = d.length ∧ n = l.length ∧ d.any (fun m => !(isName m.table && checkPart m.part)) = false,
    ⟨l.length, rfl, [], l, _, _, rfl, rfl, rfl, rfl, rfl, by rw [← hcl], rfl⟩, ?_⟩
  rintro m xs lo h2 ⟨rfl, d, r, k, n, rfl, rfl, rfl, hd, rfl, rfl, hany⟩
  have hdl : l.length = d.length + r.length := by rw [hd, List.length_append]
  refine ⟨fun c6 => ?_, fun c6 => ?_⟩
  · replace c6 : (d.length : Int) < (l.length : Int) := of_decide_eq_true c6
    cases r with
    | nil => exact absurd hdl (by simp only [List.length_nil]; omega)
    | cons c r =>
    have hget : (l.map fun m => V.agg m.v)[d.length]? = some (.agg c.v) := by rw [hd]; exact map_get _ d c r
    simp only [List.length_cons] at hdl
    have hm : c ∈ l := by rw [hd]; simp
    refine ⟨.agg c.v, ⟨by show (0:Int) ≤ (d.length : Int); omega, ?_⟩, ?_⟩
    · show (l.map fun m => V.agg m.v)[((d.length : Nat) : Int).toNat]? = _
      rw [Int.toNat_natCast]; exact hget
    refine (c_chk2 W0 hD c (hs c hm) _).mono ?_
    rintro _ _ ⟨rfl, rfl⟩
    refine ⟨fun c3 => ?_, fun c3 => ?_⟩
    · replace c3 : (!(isName c.table && checkPart c.part)) = true := c3
      refine ⟨_, rfl, ?_, rfl⟩
      have e1 : decide ((0:Int) ≤ (d.length : Int)) = true := decide_eq_true (by omega)
      rw [e1, hd, List.any_append, List.any_cons, c3]; simp
    · replace c3 : (!(isName c.table && checkPart c.part)) = false := c3
      refine ⟨by show inI64 ((d.length : Int) + 1); unfold inI64; omega, ?_⟩
      refine ⟨r.length, by show r.length < r.length + 1; omega, rfl, d ++ [c], r, _, _, rfl, rfl, rfl, by rw [hd]; simp, by simp, rfl, ?_⟩
      rw [List.any_append, hany, List.any_cons, c3]; rfl
  · replace c6 : ¬ (d.length : Int) < (l.length : Int) := of_decide_eq_false c6
    cases r with
    | cons c r => exact absurd hdl (by simp only [List.length_cons]; omega)
    | nil =>
    refine ⟨_, rfl, ?_, rfl⟩
    rw [hd, List.append_nil, hany]; rfl
theorem c_has2 (hD : DecC W0) (l : List Mut) (hl : l.length ≤ 2 ^ 45) (hs : ∀ m ∈ l, m.sized) (h : H) :
    ACalls Tryz.prog W0 30 [.v (.sl 4 (l.map fun m => .agg m.v)), .v (.lit (.func (.func 31) #[] #[]))] h fun r h' => r = .v (V.b (l.any (fun m => !(isName m.table && checkPart m.part)))) ∧ h' = h := by
  refine ACalls.of (C := CO [] fun _ => ([], [], 0)) (cOkO _ _) hP (fn := Tryz.f30) (by kernel_rfl) (by kernel_rfl) ?_
  refine (c_idx2 W0 hD l hl hs _).mono ?_
  rintro _ _ ⟨n, rfl, hn, rfl⟩
  exact ⟨congrArg (fun x => A.v (V.b x)) hn, rfl⟩

theorem any_not {α : Type} (l : List α) (p : α → Bool) : l.any (fun x => !p x) = !l.all p := by
  induction l with
  | nil => rfl
  | cons a l ih => rw [List.any_cons, List.all_cons, ih]; cases p a <;> rfl

def Msg.sized (m : Msg) : Prop := ∀ x ∈ m.muts, x.sized
theorem c_checkMsg (hD : DecC W0) (m : Msg) (hm : m.sized) (h : H) : ACalls Tryz.prog W0 11 [.v (.agg m.v)] h fun r h' => r = .v (V.b (checkMsg m)) ∧ h' = h := by
  obtain ⟨kind, frm, to, id, muts, keys, num⟩ := m
  replace hm : ∀ x ∈ muts, x.sized := hm
  obtain ⟨b1, hb1⟩ : ∃ b1, b1 = keys.all (fun s => decide (s.size ≤ 100)) := ⟨_, rfl⟩
  obtain ⟨b2, hb2⟩ : ∃ b2, b2 = muts.all (fun x => isName x.table && checkPart x.part) := ⟨_, rfl⟩
  have hsp : checkMsg ⟨kind, frm, to, id, muts, keys, num⟩ = (decide (1 ≤ kind) && decide (kind ≤ 8) && inB frm 4 && inB to 4 && inB id 1099511627776 && inB num 1099511627776 && decide (muts.length ≤ 100) && decide (keys.length ≤ 40) && b1 && b2) := by rw [hb1, hb2]; rfl
  have hc1 : (muts.map fun x => V.agg x.v).length = muts.length := List.length_map ..
  have hc2 : (keys.map V.s).length = keys.length := List.length_map ..
  rw [hsp]
  refine ACalls.of (C := CO [] fun _ => ([], [], 0)) (cOkO _ _) hP (fn := Tryz.f11) (by kernel_rfl) (by kernel_rfl) ?_
  refine ⟨rfl, V.b (inB frm 4), fun hg => c_in W0 frm 4 _, ?_⟩
  refine ⟨rfl, V.b (inB to 4), fun hg => c_in W0 to 4 _, ?_⟩
  refine ⟨rfl, V.b (inB id 1099511627776), fun hg => c_in W0 id 1099511627776 _, ?_⟩
  refine ⟨rfl, V.b (inB num 1099511627776), fun hg => c_in W0 num 1099511627776 _, ?_⟩
  have conv : ∀ x : Bool, x = (bif (bif (bif (bif (bif (bif (bif decide (kind < 1) then true else decide (8 < kind)) then true else !inB frm 4) then true else !inB to 4) then true else !inB id 1099511627776) then true else !inB num 1099511627776) then true else decide ((100:Int) < ((muts.map fun x => V.agg x.v).length : Int))) then true else decide ((40:Int) < ((keys.map V.s).length : Int))) →
      x = !(decide (1 ≤ kind) && decide (kind ≤ 8) && inB frm 4 && inB to 4 && inB id 1099511627776 && inB num 1099511627776 && decide (muts.length ≤ 100) && decide (keys.length ≤ 40)) := by
    rintro x rfl
    have e1 : decide (kind < 1) = !decide (1 ≤ kind) := by
      by_cases hh : 1 ≤ kind
      · rw [decide_eq_true hh, decide_eq_false (by omega)]; rfl
      · rw [decide_eq_false hh, decide_eq_true (by omega)]; rfl
    have e2 : decide (8 < kind) = !decide (kind ≤ 8) := by
      by_cases hh : kind ≤ 8
      · rw [decide_eq_true hh, decide_eq_false (by omega)]; rfl
      · rw [decide_eq_false hh, decide_eq_true (by omega)]; rfl
    rw [hc1, hc2, dec_lt muts.length 100 100 rfl, dec_lt keys.length 40 40 rfl, e1, e2]
    cases decide (1 ≤ kind) <;> cases decide (kind ≤ 8) <;> cases inB frm 4 <;> cases inB to 4 <;> cases inB id 1099511627776 <;> cases inB num 1099511627776 <;> cases decide (muts.length ≤ 100) <;> cases decide (keys.length ≤ 40) <;> rfl
  refine ⟨fun c5 => ?_, fun c5 => ?_⟩
  · replace c5 := not_t ((conv _ rfl).symm.trans c5)
    rw [c5]
    exact ⟨rfl, rfl⟩
  replace c5 := not_f ((conv _ rfl).symm.trans c5)
  have c6 := c5
  simp only [Bool.and_eq_true, decide_eq_true_eq] at c6
  have hml : muts.length ≤ 100 := c6.1.2
  have hkl : keys.length ≤ 40 := c6.2
  have h2 := c_has2 W0 hD muts (by omega) hm
  rw [any_not, ← hb2] at h2
  rw [c5]
  refine (c_has1 W0 keys (by omega) _).mono ?_
  rintro _ _ ⟨rfl, rfl⟩
  refine ⟨rfl, V.b (!b2), fun hg => h2 _, ?_⟩
  refine ⟨congrArg (fun x => A.v (V.b x)) ?_, rfl⟩
  show (bif !keys.any (fun s => !decide (s.size ≤ 100)) then !!b2 else false) = (true && b1 && b2)
  rw [any_not, ← hb1]
  cases b1 <;> cases b2 <;> rfl
end Go.AI

namespace Go.AI
open Go.Proofs Go
variable (W0 : World)
set_option maxRecDepth 20000
set_option maxHeartbeats 1000000

theorem c_wtext (b : List UInt8) (s : Str) (hb : (b ++ encText s).length ≤ 2 ^ 45) (h : H) :
    ACalls Tryz.prog W0 99 [.v (.sl 1 (V.bytes b)), .v (V.s s)] h fun r h' => r = .own 1 (V.bytes (b ++ encText s)) ∧ h' = h := by
  have hl : b.length + (nby s.size + 1) + s.size ≤ 2 ^ 45 := by
    have := str_len s
    simp only [encText, List.length_append, numB_length, this] at hb
    omega
  have hs : (V.bytes (b ++ numB s.size)).length = b.length + (nby s.size + 1) := by simp [bytes_length, numB_length]
  have hd : (V.bytes s.data.toList).length = s.size := by rw [bytes_length, str_len]
  refine ACalls.of (C := CO [] fun _ => ([], [], 0)) (cOkO _ _) hP (fn := Tryz.f99) (by kernel_rfl) (by kernel_rfl) ?_
  refine ⟨(s.size : Int), wrapU64 (by omega) (by omega), ?_⟩
  refine (c_Num W0 b s.size (by omega) (by omega) _).mono ?_
  rintro _ _ ⟨rfl, rfl⟩
  refine ⟨?_, V.bytes (b ++ encText s), ?_, ?_⟩
  · show ((V.bytes (b ++ numB s.size)).length + (V.bytes s.data.toList).length) * 1 ≤ 70368744177664
    rw [hs, hd]; omega
  · show V.bytes (b ++ numB s.size) ++ V.bytes s.data.toList = _
    rw [bytes_append, encText, List.append_assoc]
  exact ⟨rfl, rfl⟩

/-- A message's cells. -/
def MC (k f t i : Int) (M L : A) (n : Int) : HO := .cells [.v (V.i k), .v (V.i f), .v (V.i t), .v (V.i i), M, L, .v (V.i n)]

theorem c_nput (k f t i n : Int) (M L : A) (j : Nat) (v : Int) (hj : (j = 0 ∧ v = k) ∨ (j = 1 ∧ v = f) ∨ (j = 2 ∧ v = t) ∨ (j = 3 ∧ v = i) ∨ (j = 6 ∧ v = n)) (hv : natB v) (b : List UInt8) (hb : b.length ≤ 2 ^ 45) (x : Nat) {h : H} (hx : h x = some (MC k f t i M L n)) :
    ACalls Tryz.prog W0 87 [.v (.agg [.ptr x j]), .v (.sl 1 (V.bytes b))] h fun r h' => r = .own 1 (V.bytes (b ++ numB v.toNat)) ∧ h' = h := by
  obtain ⟨h0, h1⟩ := hv
  rcases hj with ⟨rfl, rfl⟩ | ⟨rfl, rfl⟩ | ⟨rfl, rfl⟩ | ⟨rfl, rfl⟩ | ⟨rfl, rfl⟩
  all_goals
    refine ACalls.of (C := CO [] fun _ => ([], [], 0)) (cOkO _ _) hP (fn := Tryz.f87) (by kernel_rfl) (by kernel_rfl) ?_
    refine ⟨_, ⟨hx, trivial⟩, ?_⟩
    refine ⟨(v.toNat : Int), by show IntKind.u64.wrap v = _; rw [wrapU64 h0 (by omega)]; omega, ?_⟩
    refine (c_Num W0 b v.toNat (by omega) hb _).mono ?_
    rintro _ _ ⟨rfl, rfl⟩
    exact ⟨rfl, rfl⟩

theorem c_mput (hD : DecC W0) (k f t i n : Int) (L : A) (muts : List Mut) (hs : ∀ m ∈ muts, m.sized) (hc : ∀ m ∈ muts, isName m.table = true ∧ checkPart m.part = true) (hl : muts.length ≤ 2 ^ 45) (b : List UInt8) (hb : (b ++ (numB muts.length ++ muts.flatMap encMut)).length ≤ 2 ^ 45) (x : Nat) {h : H} (hx : h x = some (MC k f t i (.v (.sl 4 (muts.map fun m => .agg m.v))) L n)) :
    ACalls Tryz.prog W0 95 [.v (.agg [.ptr x 4]), .v (.sl 1 (V.bytes b))] h fun r h' => r = .own 1 (V.bytes (b ++ (numB muts.length ++ muts.flatMap encMut))) ∧ h' = h := by
  have hcl : (muts.map fun m => V.agg m.v).length = muts.length := List.length_map ..
  have hlen := hb
  simp only [List.length_append] at hlen
  refine ACalls.of (C := CO [40] fun i => match i with | 6 => ([0, 1, 2, 4, 5, 3, 6, 7], [], 1) | _ => ([], [], 0)) (cOkO _ _) hP (fn := Tryz.f95) (by kernel_rfl) (by kernel_rfl) ?_
  refine ⟨_, ⟨hx, trivial⟩, ?_⟩
  refine ⟨(muts.length : Int), by show IntKind.u64.wrap ((muts.map fun m => V.agg m.v).length : Int) = _; rw [hcl]; exact wrapU64 (by omega) (by omega), ?_⟩
  refine (c_Num W0 b muts.length (by omega) (by omega) _).mono ?_
  rintro _ h ⟨rfl, rfl⟩
  refine ⟨_, ⟨hx, trivial⟩, ?_⟩
  refine ⟨0, [1, 20, 21, 22], 0, fun m xs l h2 => l = [] ∧ ∃ (d r : List Mut) (acc : List UInt8) (k2 n2 : Int), xs = [.own 1 (V.bytes acc), .v (.sl 4 (muts.map fun m => .agg m.v)), .v (V.i n2), .v (V.i k2)] ∧ h2 = h ∧ m = r.length ∧ muts = d ++ r ∧ k2 = d.length ∧ n2 = muts.length ∧
      acc ++ r.flatMap encMut = b ++ (numB muts.length ++ muts.flatMap encMut),
    ⟨muts.length, rfl, [], muts, _, _, _, rfl, rfl, rfl, rfl, rfl, by rw [← hcl], by rw [List.append_assoc]⟩, ?_⟩
  rintro m xs l h2 ⟨rfl, d, r, acc, k2, n2, rfl, rfl, rfl, hd, rfl, rfl, hacc⟩
  have hdl : muts.length = d.length + r.length := by rw [hd, List.length_append]
  refine ⟨fun c6 => ?_, fun c6 => ?_⟩
  · replace c6 : (d.length : Int) < (muts.length : Int) := of_decide_eq_true c6
    cases r with
    | nil => exact absurd hdl (by simp only [List.length_nil]; omega)
    | cons c r =>
    have hget : (muts.map fun m => V.agg m.v)[d.length]? = some (.agg c.v) := by rw [hd]; exact map_get _ d c r
    have hlt := congrArg List.length hacc
    simp only [List.length_append, List.flatMap_cons] at hlt hdl
    simp only [List.length_cons] at hdl
    have hm : c ∈ muts := by rw [hd]; simp
    have hcc := hc c hm
    have hpl := encPart_le hcc.2
    have hpp : putPart c.part = (encPart c.part, 0) := by unfold putPart; rw [if_pos hcc.2, if_neg (by omega)]
    have cp := c_Part W0 hD c.part (hs c hm).2 (fun _ => by omega)
    rw [hpp] at cp
    have hce : (encMut c).length = (encText c.table).length + (encText ⟨(encPart c.part).toArray⟩).length := by simp [encMut]
    refine ⟨.agg c.v, ⟨by show (0:Int) ≤ (d.length : Int); omega, ?_⟩, ?_⟩
    · show (muts.map fun m => V.agg m.v)[((d.length : Nat) : Int).toNat]? = _
      rw [Int.toNat_natCast]; exact hget
    refine (cp _).mono ?_
    rintro _ _ ⟨rfl, rfl⟩
    refine ⟨[], fun _ => false, ?_⟩
    refine ⟨encPart c.part, rfl, ?_⟩
    refine (c_wtext W0 acc c.table (by simp only [List.length_append]; omega) _).mono ?_
    rintro _ _ ⟨rfl, rfl⟩
    refine (c_wtext W0 (acc ++ encText c.table) ⟨(encPart c.part).toArray⟩ (by simp only [List.length_append]; omega) _).mono ?_
    rintro _ _ ⟨rfl, rfl⟩
    refine ⟨by show inI64 ((d.length : Int) + 1); unfold inI64; omega, ?_⟩
    refine ⟨r.length, by show r.length < r.length + 1; omega, rfl, d ++ [c], r, _, _, _, rfl, rfl, rfl, by rw [hd]; simp, by simp, rfl, ?_⟩
    rw [← hacc]; simp [encMut]
  · replace c6 : ¬ (d.length : Int) < (muts.length : Int) := of_decide_eq_false c6
    cases r with
    | cons c r => exact absurd hdl (by simp only [List.length_cons]; omega)
    | nil =>
    refine ⟨?_, rfl⟩
    rw [← hacc]; simp only [List.flatMap_nil, List.append_nil]; rfl

theorem c_tput (k f t i n : Int) (M : A) (keys : List Str) (hl : keys.length ≤ 2 ^ 45) (b : List UInt8) (hb : (b ++ (numB keys.length ++ keys.flatMap encText)).length ≤ 2 ^ 45) (x : Nat) {h : H} (hx : h x = some (MC k f t i M (.v (.sl 1 (keys.map V.s))) n)) :
    ACalls Tryz.prog W0 122 [.v (.agg [.ptr x 5]), .v (.sl 1 (V.bytes b))] h fun r h' => r = .own 1 (V.bytes (b ++ (numB keys.length ++ keys.flatMap encText))) ∧ h' = h := by
  have hcl : (keys.map V.s).length = keys.length := List.length_map ..
  have hlen := hb
  simp only [List.length_append] at hlen
  refine ACalls.of (C := CO [28] fun _ => ([], [], 0)) (cOkO _ _) hP (fn := Tryz.f122) (by kernel_rfl) (by kernel_rfl) ?_
  refine ⟨_, ⟨hx, trivial⟩, ?_⟩
  refine ⟨(keys.length : Int), by show IntKind.u64.wrap ((keys.map V.s).length : Int) = _; rw [hcl]; exact wrapU64 (by omega) (by omega), ?_⟩
  refine (c_Num W0 b keys.length (by omega) (by omega) _).mono ?_
  rintro _ h ⟨rfl, rfl⟩
  refine ⟨_, ⟨hx, trivial⟩, ?_⟩
  refine ⟨0, [1, 18, 19, 20], 0, fun m xs l h2 => l = [] ∧ ∃ (d r : List Str) (acc : List UInt8) (k2 n2 : Int), xs = [.own 1 (V.bytes acc), .v (.sl 1 (keys.map V.s)), .v (V.i n2), .v (V.i k2)] ∧ h2 = h ∧ m = r.length ∧ keys = d ++ r ∧ k2 = d.length ∧ n2 = keys.length ∧
      acc ++ r.flatMap encText = b ++ (numB keys.length ++ keys.flatMap encText),
    ⟨keys.length, rfl, [], keys, _, _, _, rfl, rfl, rfl, rfl, rfl, by rw [← hcl], by rw [List.append_assoc]⟩, ?_⟩
  rintro m xs l h2 ⟨rfl, d, r, acc, k2, n2, rfl, rfl, rfl, hd, rfl, rfl, hacc⟩
  have hdl : keys.length = d.length + r.length := by rw [hd, List.length_append]
  refine ⟨fun c6 => ?_, fun c6 => ?_⟩
  · replace c6 : (d.length : Int) < (keys.length : Int) := of_decide_eq_true c6
    cases r with
    | nil => exact absurd hdl (by simp only [List.length_nil]; omega)
    | cons c r =>
    have hget : (keys.map V.s)[d.length]? = some (V.s c) := by rw [hd]; exact map_get _ d c r
    have hlt := congrArg List.length hacc
    simp only [List.length_append, List.flatMap_cons] at hlt hdl
    simp only [List.length_cons] at hdl
    refine ⟨V.s c, ⟨by show (0:Int) ≤ (d.length : Int); omega, ?_⟩, ?_⟩
    · show (keys.map V.s)[((d.length : Nat) : Int).toNat]? = _
      rw [Int.toNat_natCast]; exact hget
    refine (c_wtext W0 acc c (by simp only [List.length_append]; omega) _).mono ?_
    rintro _ _ ⟨rfl, rfl⟩
    refine ⟨by show inI64 ((d.length : Int) + 1); unfold inI64; omega, ?_⟩
    refine ⟨r.length, by show r.length < r.length + 1; omega, rfl, d ++ [c], r, _, _, _, rfl, rfl, rfl, by rw [hd]; simp, by simp, rfl, ?_⟩
    rw [← hacc]; simp
  · replace c6 : ¬ (d.length : Int) < (keys.length : Int) := of_decide_eq_false c6
    cases r with
    | cons c r => exact absurd hdl (by simp only [List.length_cons]; omega)
    | nil =>
    refine ⟨?_, rfl⟩
    rw [← hacc]; simp only [List.flatMap_nil, List.append_nil]; rfl

def piecesV (x : Nat) : List V := [.ifc 74 (.agg [.ptr x 0]), .ifc 74 (.agg [.ptr x 1]), .ifc 74 (.agg [.ptr x 2]), .ifc 74 (.agg [.ptr x 3]), .ifc 74 (.agg [.ptr x 6]), .ifc 77 (.agg [.ptr x 4]), .ifc 80 (.agg [.ptr x 5])]
theorem c_pieces (x : Nat) (h : H) : ACalls Tryz.prog W0 14 [.v (.ptr x 0)] h fun r h' => r = .own 1 (piecesV x) ∧ h' = h := by
  refine ACalls.of (C := CO [] fun i => match i with | 1 => ([0, 1, 2, 3, 4, 5, 6, 7, 8, 9, 10, 11, 12, 13, 14, 15, 16, 17, 18, 19, 20, 21, 22, 23, 24, 25, 26, 27, 28, 29, 30, 31, 32, 33, 34, 35, 36], [], 0) | _ => ([], [], 0)) (cOkO _ _) hP (fn := Tryz.f14) (by kernel_rfl) (by kernel_rfl) ?_
  exact ⟨rfl, rfl⟩
end Go.AI

namespace Go.AI
open Go.Proofs Go
variable (W0 : World)
set_option maxRecDepth 20000
set_option maxHeartbeats 2000000

theorem c_Put (hD : DecC W0) (m : Msg) (hm : m.sized) (h : H) : ACalls Tryz.prog W0 6 [.v (.agg m.v)] h fun r h' => r = .v (.tup [V.s (putMsg m).1, V.i (putMsg m).2]) ∧ h' = h := by
  have cc := c_checkMsg W0 hD m hm
  have kk : ∀ q : Str × Int, putMsg m = q → A.v (.tup [V.s q.1, V.i q.2]) = A.v (.tup [V.s (putMsg m).1, V.i (putMsg m).2]) := by rintro q rfl; rfl
  obtain ⟨kind, frm, to, id, muts, keys, num⟩ := m
  replace hm : ∀ x ∈ muts, x.sized := hm
  refine ACalls.forget (Q := fun r h' => r = .v (.tup [V.s (putMsg ⟨kind, frm, to, id, muts, keys, num⟩).1, V.i (putMsg ⟨kind, frm, to, id, muts, keys, num⟩).2]) ∧ H.le h h') ?_ (by rintro a h' ⟨rfl, hle⟩; exact ⟨h, hle, rfl, rfl⟩)
  refine ACalls.of (C := CO [] fun _ => ([], [], 0)) (cOkO _ _) hP (fn := Tryz.f6) (by kernel_rfl) (by kernel_rfl) ?_
  refine (cc _).mono ?_
  rintro _ h ⟨rfl, rfl⟩
  refine ⟨fun c1 => ?_, fun c1 => ?_⟩
  · replace c1 := not_t c1
    exact ⟨kk (⟨#[]⟩, 1) (by unfold putMsg; rw [if_neg (by rw [c1]; exact Bool.false_ne_true)]), H.le_refl _⟩
  replace c1 := not_f c1
  have hlen := encMsg_le c1
  have hmsg : encMsg ⟨kind, frm, to, id, muts, keys, num⟩ = [] ++ numB kind.toNat ++ numB frm.toNat ++ numB to.toNat ++ numB id.toNat ++ numB num.toNat ++ (numB muts.length ++ muts.flatMap encMut) ++ (numB keys.length ++ keys.flatMap encText) := by simp [encMsg]
  have c2 := c1
  simp only [checkMsg, Bool.and_eq_true, decide_eq_true_eq, List.all_eq_true] at c2
  obtain ⟨⟨⟨⟨⟨⟨⟨⟨⟨h1, h2⟩, h3⟩, h4⟩, h5⟩, h6⟩, h7⟩, h8⟩, h9⟩, h10⟩ := c2
  have inn : ∀ {v k : Int}, inB v k = true → k ≤ 1099511627776 → natB v := by
    intro v k h hk
    have : 0 ≤ v ∧ v ≤ k := by simpa [inB] using h
    exact ⟨this.1, by omega⟩
  have b1 : natB kind := ⟨by omega, by omega⟩
  have b2 := inn h3 (by decide)
  have b3 := inn h4 (by decide)
  have b4 := inn h5 (by decide)
  have b5 := inn h6 (by decide)
  have hl := hlen
  rw [hmsg] at hl
  simp only [List.length_append, List.length_nil] at hl
  intro x hx
  refine (c_pieces W0 x _).mono ?_
  rintro _ _ ⟨rfl, rfl⟩
  have gx : (h.upd x (MC kind frm to id (.v (.sl 4 (muts.map fun x => .agg x.v))) (.v (.sl 1 (keys.map V.s))) num)) x = some (MC kind frm to id (.v (.sl 4 (muts.map fun x => .agg x.v))) (.v (.sl 1 (keys.map V.s))) num) := H.upd_get _ _ _
  obtain ⟨parts, hparts⟩ : ∃ parts : List (List UInt8), parts = [numB kind.toNat, numB frm.toNat, numB to.toNat, numB id.toNat, numB num.toNat, numB muts.length ++ muts.flatMap encMut, numB keys.length ++ keys.flatMap encText] := ⟨_, rfl⟩
  have hfl : ∀ k, (parts.take (k + 1)).flatten = (parts.take k).flatten ++ (parts[k]?.getD []) := by
    intro k; rw [List.take_add_one]; cases parts[k]? <;> simp
  have hall : (parts.take 7).flatten = encMsg ⟨kind, frm, to, id, muts, keys, num⟩ := by rw [hparts, hmsg]; simp
  have hle : ∀ k, (parts.take k).flatten.length ≤ 2 ^ 31 := by
    intro k
    have h1 : parts.flatten.length = ((parts.take k).flatten ++ (parts.drop k).flatten).length := by rw [← List.flatten_append, List.take_append_drop]
    have h2 : parts.flatten = encMsg ⟨kind, frm, to, id, muts, keys, num⟩ := by rw [hparts, hmsg]; simp
    rw [h2, List.length_append] at h1
    omega
  refine ⟨0, [4, 10, 11, 12], 0, fun mm xs l h2 => ∃ (k : Nat) (n : Int) (S : List V), xs = [.own 1 S, .own 1 (piecesV x), .v (V.i 7), .v (V.i n)] ∧ l = [] ∧ h2 = h.upd x (MC kind frm to id (.v (.sl 4 (muts.map fun x => .agg x.v))) (.v (.sl 1 (keys.map V.s))) num) ∧ mm + k = 7 ∧ n = k ∧ S = V.bytes (parts.take k).flatten,
    ⟨7, 0, _, _, rfl, rfl, rfl, rfl, rfl, rfl⟩, ?_⟩
  rintro mm xs l h2 ⟨k, n, S, rfl, rfl, rfl, hk, rfl, rfl⟩
  replace hk : (mm : Nat) + k = 7 := hk
  have step : ∀ (j : Nat), j + 1 ≤ 7 → (∃ m', m' < (7 - j : Nat) ∧ ∃ (k : Nat) (n : Int) (S : List V), [A.own 1 (V.bytes ((parts.take j).flatten ++ (parts[j]?.getD []))), .own 1 (piecesV x), .v (V.i 7), .v (V.i ((j : Int) + 1))] = [.own 1 S, .own 1 (piecesV x), .v (V.i 7), .v (V.i n)] ∧ ([] : List LO) = [] ∧ h.upd x (MC kind frm to id (.v (.sl 4 (muts.map fun x => .agg x.v))) (.v (.sl 1 (keys.map V.s))) num) = h.upd x (MC kind frm to id (.v (.sl 4 (muts.map fun x => .agg x.v))) (.v (.sl 1 (keys.map V.s))) num) ∧ m' + k = 7 ∧ n = k ∧ S = V.bytes (parts.take k).flatten) := by
    intro j hj
    exact ⟨7 - (j + 1), by omega, j + 1, _, _, rfl, rfl, rfl, by omega, by omega, by rw [hfl j]⟩
  rcases Nat.eq_or_lt_of_le (show 0 ≤ k by omega) with rfl | hk0
  · obtain rfl : mm = 7 := by omega
    refine ⟨fun _ => ?_, fun c => (nomatch (show true = false from c))⟩
    refine ⟨.ifc 74 (.agg [.ptr x 0]), ⟨by decide, rfl⟩, ?_⟩
    refine (c_nput W0 kind frm to id num _ _ 0 kind (.inl ⟨rfl, rfl⟩) b1 _ (by have := hle 0; omega) x gx).mono ?_
    rintro _ _ ⟨rfl, rfl⟩
    refine ⟨by show inI64 _; unfold inI64; decide, ?_⟩
    have e := step 0 (by decide)
    rw [show (parts[0]?.getD []) = numB kind.toNat from by rw [hparts]; rfl] at e
    exact e
  rcases Nat.eq_or_lt_of_le (show 1 ≤ k by omega) with rfl | hk1
  · obtain rfl : mm = 6 := by omega
    refine ⟨fun _ => ?_, fun c => (nomatch (show true = false from c))⟩
    refine ⟨.ifc 74 (.agg [.ptr x 1]), ⟨by decide, rfl⟩, ?_⟩
    refine (c_nput W0 kind frm to id num _ _ 1 frm (.inr (.inl ⟨rfl, rfl⟩)) b2 _ (by have := hle 1; omega) x gx).mono ?_
    rintro _ _ ⟨rfl, rfl⟩
    refine ⟨by show inI64 _; unfold inI64; decide, ?_⟩
    have e := step 1 (by decide)
    rw [show (parts[1]?.getD []) = numB frm.toNat from by rw [hparts]; rfl] at e
    exact e
  rcases Nat.eq_or_lt_of_le (show 2 ≤ k by omega) with rfl | hk2
  · obtain rfl : mm = 5 := by omega
    refine ⟨fun _ => ?_, fun c => (nomatch (show true = false from c))⟩
    refine ⟨.ifc 74 (.agg [.ptr x 2]), ⟨by decide, rfl⟩, ?_⟩
    refine (c_nput W0 kind frm to id num _ _ 2 to (.inr (.inr (.inl ⟨rfl, rfl⟩))) b3 _ (by have := hle 2; omega) x gx).mono ?_
    rintro _ _ ⟨rfl, rfl⟩
    refine ⟨by show inI64 _; unfold inI64; decide, ?_⟩
    have e := step 2 (by decide)
    rw [show (parts[2]?.getD []) = numB to.toNat from by rw [hparts]; rfl] at e
    exact e
  rcases Nat.eq_or_lt_of_le (show 3 ≤ k by omega) with rfl | hk3
  · obtain rfl : mm = 4 := by omega
    refine ⟨fun _ => ?_, fun c => (nomatch (show true = false from c))⟩
    refine ⟨.ifc 74 (.agg [.ptr x 3]), ⟨by decide, rfl⟩, ?_⟩
    refine (c_nput W0 kind frm to id num _ _ 3 id (.inr (.inr (.inr (.inl ⟨rfl, rfl⟩)))) b4 _ (by have := hle 3; omega) x gx).mono ?_
    rintro _ _ ⟨rfl, rfl⟩
    refine ⟨by show inI64 _; unfold inI64; decide, ?_⟩
    have e := step 3 (by decide)
    rw [show (parts[3]?.getD []) = numB id.toNat from by rw [hparts]; rfl] at e
    exact e
  rcases Nat.eq_or_lt_of_le (show 4 ≤ k by omega) with rfl | hk4
  · obtain rfl : mm = 3 := by omega
    refine ⟨fun _ => ?_, fun c => (nomatch (show true = false from c))⟩
    refine ⟨.ifc 74 (.agg [.ptr x 6]), ⟨by decide, rfl⟩, ?_⟩
    refine (c_nput W0 kind frm to id num _ _ 6 num (.inr (.inr (.inr (.inr ⟨rfl, rfl⟩)))) b5 _ (by have := hle 4; omega) x gx).mono ?_
    rintro _ _ ⟨rfl, rfl⟩
    refine ⟨by show inI64 _; unfold inI64; decide, ?_⟩
    have e := step 4 (by decide)
    rw [show (parts[4]?.getD []) = numB num.toNat from by rw [hparts]; rfl] at e
    exact e
  rcases Nat.eq_or_lt_of_le (show 5 ≤ k by omega) with rfl | hk5
  · obtain rfl : mm = 2 := by omega
    refine ⟨fun _ => ?_, fun c => (nomatch (show true = false from c))⟩
    refine ⟨.ifc 77 (.agg [.ptr x 4]), ⟨by decide, rfl⟩, ?_⟩
    refine (c_mput W0 hD kind frm to id num _ muts hm h10 (by omega) _ (by have := hle 5; simp only [List.length_append]; omega) x gx).mono ?_
    rintro _ _ ⟨rfl, rfl⟩
    refine ⟨by show inI64 _; unfold inI64; decide, ?_⟩
    have e := step 5 (by decide)
    rw [show (parts[5]?.getD []) = numB muts.length ++ muts.flatMap encMut from by rw [hparts]; rfl] at e
    exact e
  rcases Nat.eq_or_lt_of_le (show 6 ≤ k by omega) with rfl | hk6
  · obtain rfl : mm = 1 := by omega
    refine ⟨fun _ => ?_, fun c => (nomatch (show true = false from c))⟩
    refine ⟨.ifc 80 (.agg [.ptr x 5]), ⟨by decide, rfl⟩, ?_⟩
    refine (c_tput W0 kind frm to id num _ keys (by omega) _ (by have := hle 6; simp only [List.length_append]; omega) x gx).mono ?_
    rintro _ _ ⟨rfl, rfl⟩
    refine ⟨by show inI64 _; unfold inI64; decide, ?_⟩
    have e := step 6 (by decide)
    rw [show (parts[6]?.getD []) = numB keys.length ++ keys.flatMap encText from by rw [hparts]; rfl] at e
    exact e
  obtain rfl : k = 7 := by omega
  refine ⟨fun c => (nomatch (show false = true from c)), fun _ => ?_⟩
  rw [hall]
  have hbl := bytes_length (encMsg ⟨kind, frm, to, id, muts, keys, num⟩)
  refine ⟨fun c7 => ?_, fun c7 => ?_⟩
  · replace c7 : 4096 < (encMsg ⟨kind, frm, to, id, muts, keys, num⟩).length := by
      have : (4096 : Int) < ((V.bytes (encMsg ⟨kind, frm, to, id, muts, keys, num⟩)).length : Int) := of_decide_eq_true c7
      omega
    exact ⟨kk (⟨#[]⟩, 2) (by unfold putMsg; rw [if_pos c1, if_pos c7]), H.le_upd hx⟩
  · replace c7 : ¬ 4096 < (encMsg ⟨kind, frm, to, id, muts, keys, num⟩).length := by
      have : ¬ (4096 : Int) < ((V.bytes (encMsg ⟨kind, frm, to, id, muts, keys, num⟩)).length : Int) := of_decide_eq_false c7
      omega
    refine ⟨_, rfl, ?_⟩
    exact ⟨kk (⟨(encMsg ⟨kind, frm, to, id, muts, keys, num⟩).toArray⟩, 0) (by unfold putMsg; rw [if_pos c1, if_neg c7]), H.le_upd hx⟩
end Go.AI

namespace Go.AI
open Go.Proofs Go
variable (W0 : World)
set_option maxRecDepth 20000
set_option maxHeartbeats 1000000

theorem c_wfail (b : List UInt8) (s : RS) (k x : Nat) {h : H} (hx : h x = some (RD b s)) :
    ACalls Tryz.prog W0 18 [.v (.ptr x 0), .v (V.i k)] h fun r h' => r = .v (.tup []) ∧ h' = h.upd x (RD b (s.fail k)) := by
  refine ACalls.of (C := CO [] fun _ => ([], [], 0)) (cOkO _ _) hP (fn := Tryz.f18) (by kernel_rfl) (by kernel_rfl) ?_
  refine ⟨_, ⟨hx, trivial⟩, ?_⟩
  refine ⟨fun c1 => ?_, fun c1 => ?_⟩
  · replace c1 : s.e = 0 := by
      have : ((s.e : Int) == 0) = true := c1
      simpa using this
    refine ⟨rfl, _, hx, ?_⟩
    refine ⟨rfl, ?_⟩
    rw [RS.fail_pos c1]; rfl
  · replace c1 : ¬ s.e = 0 := by
      have : ((s.e : Int) == 0) = false := c1
      simpa using this
    refine ⟨rfl, ?_⟩
    rw [RS.fail_neg c1, H.upd_self hx]; rfl


/-- The next number, up to one. -/
def wAny (b : List UInt8) (s : RS) (most wrong : Nat) : Nat × RS :=
  if s.e = 0 then (if (getNum b s.p).2.2 = 0 then (if most < (getNum b s.p).1 then (0, ⟨(getNum b s.p).2.1, wrong⟩) else ((getNum b s.p).1, ⟨(getNum b s.p).2.1, 0⟩)) else (0, ⟨s.p, (getNum b s.p).2.2⟩)) else (0, s)

theorem c_wany (b : List UInt8) (s : RS) (most wrong x : Nat) (hm : most < 2 ^ 63) (hb : b.length ≤ 2 ^ 45) (hs : s.ok b) {h : H} (hx : h x = some (RD b s)) :
    ACalls Tryz.prog W0 90 [.v (.ptr x 0), .v (.lit (.int .u64 most)), .v (V.i wrong)] h fun r h' => r = .v (V.i (wAny b s most wrong).1) ∧ h' = h.upd x (RD b (wAny b s most wrong).2) := by
  have hp := hs.1
  have kk : ∀ q : Nat × RS, wAny b s most wrong = q → A.v (V.i q.1) = A.v (V.i (wAny b s most wrong).1) ∧ h.upd x (RD b q.2) = h.upd x (RD b (wAny b s most wrong).2) := by rintro q rfl; exact ⟨rfl, rfl⟩
  refine ACalls.of (C := CO [] fun i => match i with | 3 => ([0, 1, 2, 3, 4, 5, 6, 7, 8, 9, 10, 11, 12, 13, 14, 15], [], 1) | _ => ([], [], 0)) (cOkO _ _) hP (fn := Tryz.f90) (by kernel_rfl) (by kernel_rfl) ?_
  refine ⟨_, ⟨hx, trivial⟩, ?_⟩
  refine ⟨fun c1 => ?_, fun c1 => ?_⟩
  · replace c1 : ¬ s.e = 0 := by
      have : ((s.e : Int) != 0) = true := c1
      simpa using this
    have e := kk (0, s) (by unfold wAny; rw [if_neg c1])
    exact ⟨e.1, (H.upd_self hx).symm.trans e.2⟩
  replace c1 : s.e = 0 := by
    have : ((s.e : Int) != 0) = false := c1
    simpa using this
  refine ⟨[], fun y => Nat.beq y x, ?_⟩
  refine ⟨_, ⟨hx, Nat.beq_refl x⟩, ?_⟩
  refine ⟨_, ⟨hx, Nat.beq_refl x⟩, ?_⟩
  refine (c_GetNum W0 b s.p (by omega) hb _).mono ?_
  rintro _ _ ⟨rfl, rfl⟩
  rw [H.back_hide]
  refine ⟨fun c3 => ?_, fun c3 => ?_⟩
  · replace c3 : ¬ (getNum b s.p).2.2 = 0 := by
      have : (((getNum b s.p).2.2 : Int) != 0) = true := c3
      simpa using this
    refine (c_wfail W0 b s (getNum b s.p).2.2 x hx).mono ?_
    rintro _ _ ⟨rfl, rfl⟩
    have e := kk (0, ⟨s.p, (getNum b s.p).2.2⟩) (by unfold wAny; rw [if_pos c1, if_neg c3])
    refine ⟨e.1, ?_⟩
    rw [RS.fail_pos c1]; exact e.2
  replace c3 : (getNum b s.p).2.2 = 0 := by
    have : (((getNum b s.p).2.2 : Int) != 0) = false := c3
    simpa using this
  refine ⟨rfl, _, hx, ?_⟩
  have hst : h.upd x (.cells [.v (.sl 1 (V.bytes b)), .v (V.i (getNum b s.p).2.1), .v (V.i (s.e : Int))]) = h.upd x (RD b ⟨(getNum b s.p).2.1, 0⟩) := by rw [c1]; rfl
  refine ⟨fun c4 => ?_, fun c4 => ?_⟩
  · replace c4 : most < (getNum b s.p).1 := by
      have : (most : Int) < ((getNum b s.p).1 : Int) := of_decide_eq_true c4
      omega
    refine (c_wfail W0 b ⟨(getNum b s.p).2.1, 0⟩ wrong x (h := h.upd x (.cells [.v (.sl 1 (V.bytes b)), .v (V.i (getNum b s.p).2.1), .v (V.i (s.e : Int))])) (by rw [hst]; exact H.upd_get _ _ _)).mono ?_
    rintro _ _ ⟨rfl, rfl⟩
    have e := kk (0, ⟨(getNum b s.p).2.1, wrong⟩) (by unfold wAny; rw [if_pos c1, if_pos c3, if_pos c4])
    exact ⟨e.1, (H.upd_upd _ _ _ _).trans e.2⟩
  · replace c4 : ¬ most < (getNum b s.p).1 := by
      have : ¬ (most : Int) < ((getNum b s.p).1 : Int) := of_decide_eq_false c4
      omega
    refine ⟨((getNum b s.p).1 : Int), wrapI64 (by omega) (by omega), ?_⟩
    have e := kk ((getNum b s.p).1, ⟨(getNum b s.p).2.1, 0⟩) (by unfold wAny; rw [if_pos c1, if_pos c3, if_neg c4])
    exact ⟨e.1, hst.trans e.2⟩

theorem wAny_num (b : List UInt8) (s : RS) : wAny b s 1099511627776 6 = rNum b s := by
  unfold wAny rNum rAny
  by_cases h1 : s.e = 0
  · by_cases h2 : (getNum b s.p).2.2 = 0
    · simp only [if_pos h1, if_pos h2]
      split
      · rw [RS.fail_pos rfl]
      · rfl
    · simp only [if_pos h1, if_neg h2]
      rw [if_neg (by decide)]
  · simp only [if_neg h1]
    rw [if_neg (by decide)]

theorem c_wnum (b : List UInt8) (s : RS) (x : Nat) (hb : b.length ≤ 2 ^ 45) (hs : s.ok b) {h : H} (hx : h x = some (RD b s)) :
    ACalls Tryz.prog W0 88 [.v (.ptr x 0)] h fun r h' => r = .v (V.i (rNum b s).1) ∧ h' = h.upd x (RD b (rNum b s).2) := by
  refine ACalls.of (C := CO [] fun _ => ([], [], 0)) (cOkO _ _) hP (fn := Tryz.f88) (by kernel_rfl) (by kernel_rfl) ?_
  have c := c_wany W0 b s 1099511627776 6 x (by decide) hb hs hx
  rw [wAny_num] at c
  refine c.mono ?_
  rintro _ _ ⟨rfl, rfl⟩
  exact ⟨rfl, rfl⟩

theorem rCount_err {b : List UInt8} {s s1 : RS} (h : rAny b s = (0, s1)) (hs : ¬ s1.e = 0) : rCount b s = (0, s1) := by
  unfold rCount; rw [h]; simp only [Nat.not_lt_zero, if_false]; rw [if_neg hs]
theorem wAny_count (b : List UInt8) (s : RS) (h1 : s.e = 0) : wAny b s (b.length - (getNum b s.p).2.1) 8 = rCount b s := by
  have hg := getNum_bound b s.p
  by_cases h2 : (getNum b s.p).2.2 = 0
  · have e : rAny b s = ((getNum b s.p).1, ⟨(getNum b s.p).2.1, 0⟩) := by rw [rAny_pos h1, if_pos h2]
    simp only [wAny, rCount, e, if_pos h1, if_pos h2]
    split
    · rw [RS.fail_pos rfl, if_neg (by show ¬ (8:Nat) = 0; decide)]
    · rw [if_pos rfl]
  · have e : rAny b s = (0, ⟨s.p, (getNum b s.p).2.2⟩) := by rw [rAny_pos h1, if_neg h2]
    rw [rCount_err e h2]
    simp only [wAny, if_pos h1, if_neg h2]

theorem c_wcount (b : List UInt8) (s : RS) (x : Nat) (hb : b.length ≤ 2 ^ 45) (hs : s.ok b) {h : H} (hx : h x = some (RD b s)) :
    ACalls Tryz.prog W0 85 [.v (.ptr x 0)] h fun r h' => r = .v (V.i (rCount b s).1) ∧ h' = h.upd x (RD b (rCount b s).2) := by
  have hp := hs.1
  have hg := getNum_bound b s.p
  have hl := bytes_length b
  refine ACalls.of (C := CO [] fun i => match i with | 3 => ([0, 1, 2, 3, 4, 5, 6, 7, 8, 9, 10, 11, 12, 13, 14, 15], [], 1) | _ => ([], [], 0)) (cOkO _ _) hP (fn := Tryz.f85) (by kernel_rfl) (by kernel_rfl) ?_
  refine ⟨_, ⟨hx, trivial⟩, ?_⟩
  refine ⟨fun c1 => ?_, fun c1 => ?_⟩
  · replace c1 : ¬ s.e = 0 := by
      have : ((s.e : Int) != 0) = true := c1
      simpa using this
    have e : rCount b s = (0, s) := rCount_err (rAny_neg c1) c1
    rw [e, H.upd_self hx]
    exact ⟨rfl, rfl⟩
  replace c1 : s.e = 0 := by
    have : ((s.e : Int) != 0) = false := c1
    simpa using this
  refine ⟨[], fun y => Nat.beq y x, ?_⟩
  refine ⟨_, ⟨hx, Nat.beq_refl x⟩, ?_⟩
  refine ⟨_, ⟨hx, Nat.beq_refl x⟩, ?_⟩
  refine (c_GetNum W0 b s.p (by omega) hb _).mono ?_
  rintro _ _ ⟨rfl, rfl⟩
  rw [H.back_hide]
  refine ⟨_, ⟨hx, trivial⟩, ?_⟩
  refine ⟨by show inI64 (((V.bytes b).length : Int) - ((getNum b s.p).2.1 : Int)); unfold inI64; omega, ?_⟩
  refine ⟨((b.length - (getNum b s.p).2.1 : Nat) : Int), by show IntKind.u64.wrap (max 0 (((V.bytes b).length : Int) - ((getNum b s.p).2.1 : Int))) = _; rw [wrapU64 (by omega) (by omega)]; omega, ?_⟩
  have c := c_wany W0 b s (b.length - (getNum b s.p).2.1) 8 x (by omega) hb hs hx
  rw [wAny_count b s c1] at c
  refine c.mono ?_
  rintro _ _ ⟨rfl, rfl⟩
  exact ⟨rfl, rfl⟩

theorem c_wrtext (b : List UInt8) (s : RS) (x : Nat) (hb : b.length ≤ 2 ^ 45) (hs : s.ok b) {h : H} (hx : h x = some (RD b s)) :
    ACalls Tryz.prog W0 96 [.v (.ptr x 0)] h fun r h' => r = .v (V.s (rText b s).1) ∧ h' = h.upd x (RD b (rText b s).2) := by
  obtain ⟨n, s1, hc⟩ : ∃ n s1, rCount b s = (n, s1) := ⟨_, _, rfl⟩
  have hok := rCount_ok hs
  rw [hc] at hok
  have hle : s1.p + n ≤ b.length := hok.2
  have hl := bytes_length b
  have cc := c_wcount W0 b s x hb hs hx
  rw [hc] at cc
  have ht : rText b s = (⟨((b.drop s1.p).take n).toArray⟩, ⟨s1.p + n, s1.e⟩) := by unfold rText; rw [hc]
  have hby : ((V.bytes b).take ((s1.p : Int) + (n : Int)).toNat).drop ((s1.p : Int)).toNat = V.bytes ((b.drop s1.p).take n) := by
    have e1 : ((s1.p : Int) + (n : Int)).toNat = s1.p + n := by omega
    have e2 : (s1.p : Int).toNat = s1.p := by omega
    have e3 : s1.p + n - s1.p = n := by omega
    rw [bytes_take_drop, e1, e2, List.drop_take, e3]
  rw [ht]
  refine ACalls.of (C := CO [] fun i => match i with | 2 => ([0, 1, 2, 3, 4, 5, 6, 7, 8, 9, 10, 11, 12, 13, 14, 15, 16], [], 0) | _ => ([], [], 0)) (cOkO _ _) hP (fn := Tryz.f96) (by kernel_rfl) (by kernel_rfl) ?_
  refine cc.mono ?_
  rintro _ _ ⟨rfl, rfl⟩
  refine ⟨_, ⟨H.upd_get _ _ _, trivial⟩, ?_⟩
  refine ⟨_, ⟨H.upd_get _ _ _, trivial⟩, ?_⟩
  refine ⟨_, ⟨H.upd_get _ _ _, trivial⟩, ?_⟩
  refine ⟨by show inI64 ((s1.p : Int) + (n : Int)); unfold inI64; omega, ?_⟩
  refine ⟨⟨by show (0:Int) ≤ (s1.p : Int) + (n : Int); omega, by show (s1.p : Int) + (n : Int) ≤ ((V.bytes b).length : Int); omega⟩, ?_⟩
  refine ⟨⟨by show (0:Int) ≤ (s1.p : Int); omega, by show (s1.p : Int) ≤ ((((s1.p : Int) + (n : Int)).toNat : Nat) : Int); omega⟩, ?_⟩
  refine ⟨(b.drop s1.p).take n, hby, ?_⟩
  refine ⟨_, ⟨H.upd_get _ _ _, trivial⟩, ?_⟩
  refine ⟨by show inI64 ((s1.p : Int) + (n : Int)); unfold inI64; omega, ?_⟩
  refine ⟨rfl, _, H.upd_get _ _ _, ?_⟩
  refine ⟨rfl, ?_⟩
  exact H.upd_upd _ _ _ _


theorem c_wbody (b : List UInt8) (s : RS) (x : Nat) (hb : b.length ≤ 2 ^ 32) (hs : s.ok b) {h : H} (hx : h x = some (RD b s)) :
    ACalls Tryz.prog W0 97 [.v (.ptr x 0)] h fun r h' => r = .v (.agg (rBody b s).1.v) ∧ h' = h.upd x (RD b (rBody b s).2) := by
  obtain ⟨t, s1, e1⟩ : ∃ n s1, rText b s = (n, s1) := ⟨_, _, rfl⟩
  have hs1 : s1.ok b := by have := rText_ok hs; rw [e1] at this; exact this
  have c1 := c_wrtext W0 b s x (by omega) hs hx; rw [e1] at c1
  have ht : t.data.toList.length ≤ b.length := by
    have : t = (rText b s).1 := by rw [e1]
    rw [this]; unfold rText; simp; omega
  have kk : ∀ (q : Part × RS), rBody b s = q → (A.v (.agg q.1.v) = A.v (.agg (rBody b s).1.v) ∧ h.upd x (RD b q.2) = h.upd x (RD b (rBody b s).2)) := by rintro q rfl; exact ⟨rfl, rfl⟩
  obtain ⟨p, e2⟩ : ∃ p, (readPart t.data.toList).1 = p := ⟨_, rfl⟩
  obtain ⟨k, e3⟩ : ∃ k, (readPart t.data.toList).2 = k := ⟨_, rfl⟩
  have c2 := c_Read W0 t.data.toList (by omega) (h.upd x (RD b s1))
  rw [e2, e3] at c2
  refine ACalls.of (C := CO [] fun _ => ([], [], 0)) (cOkO _ _) hP (fn := Tryz.f97) (by kernel_rfl) (by kernel_rfl) ?_
  refine c1.mono ?_
  rintro _ _ ⟨rfl, rfl⟩
  refine ⟨_, ⟨H.upd_get _ _ _, trivial⟩, ?_⟩
  refine ⟨fun c3 => ?_, fun c3 => ?_⟩
  · replace c3 : ¬ s1.e = 0 := by
      have : ((s1.e : Int) != 0) = true := c3
      simpa using this
    have e := kk (⟨⟨#[]⟩, 0, []⟩, s1) (by simp only [rBody, e1, if_neg c3])
    exact e
  replace c3 : s1.e = 0 := by
    have : ((s1.e : Int) != 0) = false := c3
    simpa using this
  refine c2.mono ?_
  rintro _ _ ⟨rfl, rfl⟩
  refine (c_wfail W0 b s1 k x (H.upd_get _ _ _)).mono ?_
  rintro _ _ ⟨rfl, rfl⟩
  have e := kk (p, s1.fail k) (by simp only [rBody, e1, if_pos c3, e2, e3])
  exact ⟨e.1, (H.upd_upd _ _ _ _).trans e.2⟩
end Go.AI

namespace Go.AI
open Go.Proofs Go
variable (W0 : World)
set_option maxRecDepth 20000
set_option maxHeartbeats 2000000

def MCn (j : Nat) (v k f t i : Int) (M L : A) (n : Int) : HO :=
  match j with
  | 0 => MC v f t i M L n
  | 1 => MC k v t i M L n
  | 2 => MC k f v i M L n
  | 3 => MC k f t v M L n
  | _ => MC k f t i M L v

/-- The reader's object and the message's. -/
def HG (h : H) (x xm : Nat) (b : List UInt8) (s : RS) (m : HO) : H := (h.upd x (RD b s)).upd xm m
theorem HG.x {h : H} {x xm : Nat} {b : List UInt8} {s : RS} {m : HO} (hn : x ≠ xm) : HG h x xm b s m x = some (RD b s) := by
  unfold HG; rw [H.upd_ne _ _ hn, H.upd_get]
theorem HG.m {h : H} {x xm : Nat} {b : List UInt8} {s : RS} {m : HO} : HG h x xm b s m xm = some m := H.upd_get _ _ _
theorem HG.updx {h : H} {x xm : Nat} {b : List UInt8} {s s2 : RS} {m : HO} (hn : x ≠ xm) : (HG h x xm b s m).upd x (RD b s2) = HG h x xm b s2 m := by
  unfold HG; rw [H.upd_comm _ _ _ (Ne.symm hn), H.upd_upd]
theorem HG.updm {h : H} {x xm : Nat} {b : List UInt8} {s : RS} {m m2 : HO} : (HG h x xm b s m).upd xm m2 = HG h x xm b s m2 := by
  unfold HG; rw [H.upd_upd]

theorem c_nget (k f t i n : Int) (M L : A) (j : Nat) (hj : j = 0 ∨ j = 1 ∨ j = 2 ∨ j = 3 ∨ j = 6) (b : List UInt8) (s : RS) (x xm : Nat) (hn : x ≠ xm) (hb : b.length ≤ 2 ^ 45) (hs : s.ok b) (h : H) :
    ACalls Tryz.prog W0 86 [.v (.agg [.ptr xm j]), .v (.ptr x 0)] (HG h x xm b s (MC k f t i M L n)) fun r h' => r = .v (.tup []) ∧ h' = HG h x xm b (rNum b s).2 (MCn j (rNum b s).1 k f t i M L n) := by
  have c := c_wnum W0 b s x hb hs (HG.x (h := h) (m := MC k f t i M L n) hn)
  rw [HG.updx hn] at c
  rcases hj with rfl | rfl | rfl | rfl | rfl
  all_goals
    refine ACalls.of (C := CO [] fun i => match i with | 1 => ([0, 1, 2, 3, 4], [5], 1) | _ => ([], [], 0)) (cOkO _ _) hP (fn := Tryz.f86) (by kernel_rfl) (by kernel_rfl) ?_
    refine ⟨[], fun _ => false, ?_⟩
    refine c.mono ?_
    rintro _ _ ⟨rfl, rfl⟩
    refine ⟨rfl, _, HG.m, ?_⟩
    exact ⟨rfl, HG.updm⟩

theorem c_mget (k f t i n : Int) (L : A) (b : List UInt8) (s : RS) (x xm : Nat) (hn : x ≠ xm) (hb : b.length ≤ 2 ^ 32) (hs : s.ok b) (h : H) :
    ACalls Tryz.prog W0 94 [.v (.agg [.ptr xm 4]), .v (.ptr x 0)] (HG h x xm b s (MC k f t i (.own 4 []) L n)) fun r h' => r = .v (.tup []) ∧
      h' = HG h x xm b (rList b (rMut b) s).2 (MC k f t i (.own 4 ((rList b (rMut b) s).1.map fun m => .agg m.v)) L n) := by
  obtain ⟨cnt, s1, e1⟩ : ∃ n s1, rCount b s = (n, s1) := ⟨_, _, rfl⟩
  have hok := rCount_ok hs; rw [e1] at hok
  have hs1 : s1.ok b := hok.1
  have hcn : s1.p + cnt ≤ b.length := hok.2
  have c1 := c_wcount W0 b s x (by omega) hs (HG.x (h := h) (m := MC k f t i (.own 4 []) L n) hn); rw [e1, HG.updx hn] at c1
  have el : rList b (rMut b) s = rMany (rMut b) cnt s1 := by simp only [rList, e1]
  rw [el]
  refine ACalls.of (C := CO [30] fun i => match i with | 6 => ([0, 1, 2, 3, 4, 5, 6, 7, 8, 9], [10], 0) | _ => ([], [], 0)) (cOkO _ _) hP (fn := Tryz.f94) (by kernel_rfl) (by kernel_rfl) ?_
  refine c1.mono ?_
  rintro _ _ ⟨rfl, rfl⟩
  refine ⟨0, [1, 2, 4], 1, fun m xs l h2 => ∃ (q : Int) (acc : List V) (l0 : List Mut) (s2 : RS), xs = [.v (.ptr x 0), .lp 0 0, .v (V.i q)] ∧ l = [.cells [.v (.ptr xm 4)]] ∧ h2 = HG h x xm b s2 (MC k f t i (.own 4 acc) L n) ∧
      q = (m : Nat) ∧ acc = l0.map (fun m => .agg m.v) ∧ s2.ok b ∧ l0.length + m = cnt ∧ l0 ++ (rMany (rMut b) m s2).1 = (rMany (rMut b) cnt s1).1 ∧ (rMany (rMut b) m s2).2 = (rMany (rMut b) cnt s1).2,
    ⟨cnt, _, [], [], s1, rfl, rfl, rfl, rfl, rfl, hs1, by show 0 + cnt = cnt; omega, rfl, rfl⟩, ?_⟩
  rintro m xs l h2 ⟨q, acc, l0, s2, rfl, rfl, rfl, rfl, rfl, hs2, hL, hl1, hl2⟩
  replace hL : l0.length + (m : Nat) = cnt := hL
  refine ⟨_, fun _ => ⟨HG.x hn, trivial⟩, ?_⟩
  have conv : ∀ y : Bool, y = (bif decide ((0:Int) < ((m : Nat) : Int)) then ((s2.e : Int) == 0) else false) → (y = true ↔ 0 < (m : Nat) ∧ s2.e = 0) := by
    rintro y rfl
    simp only [Bool.cond_false_right, Bool.and_eq_true, beq_iff_eq, decide_eq_true_eq]
    omega
  refine ⟨fun c2 => ?_, fun c2 => ?_⟩
  · obtain ⟨g1, g2⟩ := (conv _ rfl).1 c2
    cases m with
    | zero => omega
    | succ m =>
    have hm : rMany (rMut b) (m + 1) s2 = ((rMut b s2).1 :: (rMany (rMut b) m (rMut b s2).2).1, (rMany (rMut b) m (rMut b s2).2).2) := by
      simp only [rMany]; rw [if_pos g2]
    rw [hm] at hl1 hl2
    have c3 := c_wrtext W0 b s2 x (by omega) hs2 (HG.x (h := h) (m := MC k f t i (.own 4 (l0.map fun m => .agg m.v)) L n) hn)
    rw [HG.updx hn] at c3
    have c4 := c_wbody W0 b (rText b s2).2 x hb (rText_ok hs2) (HG.x (h := h) (m := MC k f t i (.own 4 (l0.map fun m => .agg m.v)) L n) hn)
    rw [HG.updx hn] at c4
    refine c3.mono ?_
    rintro _ _ ⟨rfl, rfl⟩
    refine c4.mono ?_
    rintro _ _ ⟨rfl, rfl⟩
    refine ⟨_, ⟨HG.m, trivial⟩, ?_⟩
    refine ⟨?_, _, rfl, ?_⟩
    · show ((l0.map fun m => V.agg m.v).length + 1) * 64 ≤ 70368744177664
      rw [List.length_map]; omega
    have hfr : (Fr.hc xm 4).h (HG h x xm b (rBody b (rText b s2).2).2 (MC k f t i (.own 4 (l0.map fun m => .agg m.v)) L n)) = HG h x xm b (rBody b (rText b s2).2).2 (MC k f t i (.v (.sl 4 (l0.map fun m => .agg m.v))) L n) := by
      rw [Fr.h_hc HG.m, ← HG.updm (m := MC k f t i (.own 4 (l0.map fun m => .agg m.v)) L n) (m2 := MC k f t i (.v (.sl 4 (l0.map fun m => .agg m.v))) L n)]; rfl
    refine ⟨rfl, _, (congrFun hfr xm).trans HG.m, ?_⟩
    refine ⟨by show inI64 (((m + 1 : Nat) : Int) - 1); unfold inI64; omega, ?_⟩
    refine ⟨m, by show m < m + 1; omega, _, _, l0 ++ [(rMut b s2).1], (rMut b s2).2, rfl, rfl, (congrArg (fun z => H.upd z xm _) hfr).trans HG.updm, by omega, by simp; rfl, rMut_ok hs2, by simp; omega, ?_, hl2⟩
    rw [← hl1]; simp
  · replace c2 : ¬ (0 < (m : Nat) ∧ s2.e = 0) := fun hh => Bool.false_ne_true (c2.symm.trans ((conv _ rfl).2 hh))
    have hm : rMany (rMut b) m s2 = ([], s2) := by
      cases m with
      | zero => rfl
      | succ m => simp only [rMany]; rw [if_neg (fun h0 => c2 ⟨Nat.succ_pos m, h0⟩)]
    rw [hm] at hl1 hl2
    rw [← hl1, ← hl2]
    simp only [List.append_nil]
    exact ⟨rfl, rfl⟩

theorem c_tget (k f t i n : Int) (M : A) (b : List UInt8) (s : RS) (x xm : Nat) (hn : x ≠ xm) (hb : b.length ≤ 2 ^ 32) (hs : s.ok b) (h : H) :
    ACalls Tryz.prog W0 121 [.v (.agg [.ptr xm 5]), .v (.ptr x 0)] (HG h x xm b s (MC k f t i M (.own 1 []) n)) fun r h' => r = .v (.tup []) ∧
      h' = HG h x xm b (rList b (rText b) s).2 (MC k f t i M (.own 1 ((rList b (rText b) s).1.map V.s)) n) := by
  obtain ⟨cnt, s1, e1⟩ : ∃ n s1, rCount b s = (n, s1) := ⟨_, _, rfl⟩
  have hok := rCount_ok hs; rw [e1] at hok
  have hs1 : s1.ok b := hok.1
  have hcn : s1.p + cnt ≤ b.length := hok.2
  have c1 := c_wcount W0 b s x (by omega) hs (HG.x (h := h) (m := MC k f t i M (.own 1 []) n) hn); rw [e1, HG.updx hn] at c1
  have el : rList b (rText b) s = rMany (rText b) cnt s1 := by simp only [rList, e1]
  rw [el]
  refine ACalls.of (C := CO [23] fun i => match i with | 4 => ([0, 1, 2, 3, 4, 5, 6, 7, 8, 9, 10], [11], 1) | _ => ([], [], 0)) (cOkO _ _) hP (fn := Tryz.f121) (by kernel_rfl) (by kernel_rfl) ?_
  refine c1.mono ?_
  rintro _ _ ⟨rfl, rfl⟩
  refine ⟨0, [1, 2, 4], 1, fun m xs l h2 => ∃ (q : Int) (acc : List V) (l0 : List Str) (s2 : RS), xs = [.v (.ptr x 0), .lp 0 0, .v (V.i q)] ∧ l = [.cells [.v (.ptr xm 5)]] ∧ h2 = HG h x xm b s2 (MC k f t i M (.own 1 acc) n) ∧
      q = (m : Nat) ∧ acc = l0.map V.s ∧ s2.ok b ∧ l0.length + m = cnt ∧ l0 ++ (rMany (rText b) m s2).1 = (rMany (rText b) cnt s1).1 ∧ (rMany (rText b) m s2).2 = (rMany (rText b) cnt s1).2,
    ⟨cnt, _, [], [], s1, rfl, rfl, rfl, rfl, rfl, hs1, by show 0 + cnt = cnt; omega, rfl, rfl⟩, ?_⟩
  rintro m xs l h2 ⟨q, acc, l0, s2, rfl, rfl, rfl, rfl, rfl, hs2, hL, hl1, hl2⟩
  replace hL : l0.length + (m : Nat) = cnt := hL
  refine ⟨_, fun _ => ⟨HG.x hn, trivial⟩, ?_⟩
  have conv : ∀ y : Bool, y = (bif decide ((0:Int) < ((m : Nat) : Int)) then ((s2.e : Int) == 0) else false) → (y = true ↔ 0 < (m : Nat) ∧ s2.e = 0) := by
    rintro y rfl
    simp only [Bool.cond_false_right, Bool.and_eq_true, beq_iff_eq, decide_eq_true_eq]
    omega
  refine ⟨fun c2 => ?_, fun c2 => ?_⟩
  · obtain ⟨g1, g2⟩ := (conv _ rfl).1 c2
    cases m with
    | zero => omega
    | succ m =>
    have hm : rMany (rText b) (m + 1) s2 = ((rText b s2).1 :: (rMany (rText b) m (rText b s2).2).1, (rMany (rText b) m (rText b s2).2).2) := by
      simp only [rMany]; rw [if_pos g2]
    rw [hm] at hl1 hl2
    have hfr : (Fr.hc xm 5).h (HG h x xm b s2 (MC k f t i M (.own 1 (l0.map V.s)) n)) = HG h x xm b s2 (MC k f t i M (.v (.sl 1 (l0.map V.s))) n) := by
      rw [Fr.h_hc HG.m, ← HG.updm (m := MC k f t i M (.own 1 (l0.map V.s)) n) (m2 := MC k f t i M (.v (.sl 1 (l0.map V.s))) n)]; rfl
    have c3 := c_wrtext W0 b s2 x (by omega) hs2 (h := (HG h x xm b s2 (MC k f t i M (.v (.sl 1 (l0.map V.s))) n)).hide fun z => Nat.beq z xm) ((H.hide_ne hn).trans (HG.x hn))
    rw [← hfr] at c3
    have hbk := H.back_upd (HG h x xm b s2 (MC k f t i M (.v (.sl 1 (l0.map V.s))) n)) (RD b (rText b s2).2) hn
    rw [HG.updx hn, ← hfr] at hbk
    refine ⟨[], fun z => Nat.beq z xm, ?_⟩
    refine ⟨_, ⟨HG.m, Nat.beq_refl xm⟩, ?_⟩
    refine c3.mono ?_
    rintro _ _ ⟨rfl, rfl⟩
    refine ⟨?_, _, rfl, ?_⟩
    · show ((l0.map V.s).length + 1) * 16 ≤ 70368744177664
      rw [List.length_map]; omega
    refine ⟨rfl, _, (congrFun hbk xm).trans HG.m, ?_⟩
    refine ⟨by show inI64 (((m + 1 : Nat) : Int) - 1); unfold inI64; omega, ?_⟩
    refine ⟨m, by show m < m + 1; omega, _, _, l0 ++ [(rText b s2).1], (rText b s2).2, rfl, rfl, (congrArg (fun z => H.upd z xm _) hbk).trans HG.updm, by omega, by simp; rfl, rText_ok hs2, by simp; omega, ?_, hl2⟩
    rw [← hl1]; simp
  · replace c2 : ¬ (0 < (m : Nat) ∧ s2.e = 0) := fun hh => Bool.false_ne_true (c2.symm.trans ((conv _ rfl).2 hh))
    have hm : rMany (rText b) m s2 = ([], s2) := by
      cases m with
      | zero => rfl
      | succ m => simp only [rMany]; rw [if_neg (fun h0 => c2 ⟨Nat.succ_pos m, h0⟩)]
    rw [hm] at hl1 hl2
    rw [← hl1, ← hl2]
    simp only [List.append_nil]
    exact ⟨rfl, rfl⟩
end Go.AI

namespace Go.AI
open Go.Proofs Go
variable (W0 : World)
set_option maxRecDepth 20000
set_option maxHeartbeats 2000000

theorem rCount_le (b : List UInt8) (s : RS) : (rCount b s).1 ≤ b.length := by
  have hf : ¬ ((rAny b s).2.fail 8).e = 0 := by
    intro h
    by_cases h0 : (rAny b s).2.e = 0
    · rw [RS.fail_pos h0] at h; cases h
    · rw [RS.fail_neg h0] at h; exact h0 h
  unfold rCount
  by_cases c : b.length - (rAny b s).2.p < (rAny b s).1
  · simp only [if_pos c, if_neg hf]; exact Nat.zero_le _
  · simp only [if_neg c]
    split
    · simp only []; omega
    · exact Nat.zero_le _
theorem rMany_mem {α : Type} (one : RS → α × RS) : ∀ (n : Nat) (s : RS) (x : α), x ∈ (rMany one n s).1 → ∃ s2, x = (one s2).1 := by
  intro n
  induction n with
  | zero => intro s x h; cases h
  | succ n ih =>
    intro s x h
    simp only [rMany] at h
    split at h
    · rcases List.mem_cons.1 h with rfl | h
      · exact ⟨s, rfl⟩
      · exact ih _ _ h
    · cases h
theorem rText_size (b : List UInt8) (s : RS) : (rText b s).1.size ≤ b.length := by
  show ((b.drop (rCount b s).2.p).take (rCount b s).1).length ≤ b.length
  simp; omega
theorem rList_len {α : Type} (b : List UInt8) (one : RS → α × RS) (s : RS) : (rList b one s).1.length ≤ b.length := Nat.le_trans (rMany_len one _ _) (rCount_le b s)
theorem rRow_sized (b : List UInt8) (hb : b.length ≤ 2 ^ 40) (s : RS) : (rRow b s).1.sized := by
  refine ⟨?_, fun c hc => ?_⟩
  · simp only [rRow]; exact Nat.le_trans (rList_len _ _ _) (by omega)
  · simp only [rRow] at hc
    obtain ⟨s2, rfl⟩ := rMany_mem _ _ _ _ hc
    have := rText_size b s2
    show (rText b s2).1.size ≤ 2 ^ 40
    omega
theorem rPart_sized (b : List UInt8) (hb : b.length ≤ 2 ^ 40) (s : RS) : (rPart b s).1.sized := by
  refine ⟨?_, fun c hc => ?_⟩
  · simp only [rPart]; exact Nat.le_trans (rList_len _ _ _) (by omega)
  · simp only [rPart] at hc
    obtain ⟨s2, rfl⟩ := rMany_mem _ _ _ _ hc
    exact rRow_sized b hb s2
theorem rMut_sized (b : List UInt8) (hb : b.length ≤ 2 ^ 40) (s : RS) : (rMut b s).1.sized := by
  have h1 := rText_size b s
  refine ⟨by show (rText b s).1.size ≤ 2 ^ 40; omega, ?_⟩
  show (rBody b (rText b s).2).1.sized
  simp only [rBody]
  split
  · unfold readPart
    exact rPart_sized _ (by rw [str_len]; have := rText_size b (rText b s).2; omega) _
  · exact ⟨Nat.zero_le _, fun r hr => by cases hr⟩

theorem c_Get (hD : DecC W0) (s : Str) (h : H) : ACalls Tryz.prog W0 8 [.v (V.s s)] h fun r h' => r = .v (.tup [.agg (getMsg s).1.v, V.i (getMsg s).2]) ∧ h' = h := by
  have kk : ∀ q : Msg × Nat, getMsg s = q → A.v (.tup [.agg q.1.v, V.i q.2]) = A.v (.tup [.agg (getMsg s).1.v, V.i (getMsg s).2]) := by rintro q rfl; rfl
  obtain ⟨b, eb⟩ : ∃ b, s.data.toList = b := ⟨_, rfl⟩
  have hbl : b.length = s.size := by rw [← eb, str_len]
  obtain ⟨k, s1, e1⟩ : ∃ n s1, rNum b ⟨0, 0⟩ = (n, s1) := ⟨_, _, rfl⟩
  obtain ⟨f, s2, e2⟩ : ∃ n s2, rNum b s1 = (n, s2) := ⟨_, _, rfl⟩
  obtain ⟨t, s3, e3⟩ : ∃ n s3, rNum b s2 = (n, s3) := ⟨_, _, rfl⟩
  obtain ⟨i, s4, e4⟩ : ∃ n s4, rNum b s3 = (n, s4) := ⟨_, _, rfl⟩
  obtain ⟨n, s5, e5⟩ : ∃ n s5, rNum b s4 = (n, s5) := ⟨_, _, rfl⟩
  obtain ⟨m, s6, e6⟩ : ∃ n s6, rList b (rMut b) s5 = (n, s6) := ⟨_, _, rfl⟩
  obtain ⟨l, s7, e7⟩ : ∃ n s7, rList b (rText b) s6 = (n, s7) := ⟨_, _, rfl⟩
  have hs0 : RS.ok b ⟨0, 0⟩ := ⟨Nat.zero_le _, by show (0:Nat) < 16; decide⟩
  have hs1 : s1.ok b := by have := (rNum_ok hs0).1; rw [e1] at this; exact this
  have hs2 : s2.ok b := by have := (rNum_ok hs1).1; rw [e2] at this; exact this
  have hs3 : s3.ok b := by have := (rNum_ok hs2).1; rw [e3] at this; exact this
  have hs4 : s4.ok b := by have := (rNum_ok hs3).1; rw [e4] at this; exact this
  have hs5 : s5.ok b := by have := (rNum_ok hs4).1; rw [e5] at this; exact this
  have hs6 : s6.ok b := by have := rList_ok (one := rMut b) (fun s hs => rMut_ok hs) hs5; rw [e6] at this; exact this
  have hs7 : s7.ok b := by have := rList_ok (one := rText b) (fun s hs => rText_ok hs) hs6; rw [e7] at this; exact this
  have er : rMsg b ⟨0, 0⟩ = (⟨k, f, t, i, m, l, n⟩, rEnd b s7) := by simp only [rMsg, e1, e2, e3, e4, e5, e6, e7]
  have hsz : b.length ≤ 2 ^ 40 → (⟨k, f, t, i, m, l, n⟩ : Msg).sized := by
    intro hb x hx
    have e : m = (rList b (rMut b) s5).1 := by rw [e6]
    replace hx : x ∈ (rList b (rMut b) s5).1 := by rw [← e]; exact hx
    obtain ⟨s2, rfl⟩ := rMany_mem _ _ _ _ hx
    exact rMut_sized b hb s2
  refine ACalls.forget (Q := fun r h' => r = .v (.tup [.agg (getMsg s).1.v, V.i (getMsg s).2]) ∧ H.le h h') ?_ (by rintro a h' ⟨rfl, hle⟩; exact ⟨h, hle, rfl, rfl⟩)
  refine ACalls.of (C := CO [] fun i => match i with | 10 => ([0, 1, 2, 3, 4, 5, 6, 7, 8, 9], [], 0) | 15 => ([0, 1, 2, 3, 4, 5, 6], [], 2) | _ => ([], [], 0)) (cOkO _ _) hP (fn := Tryz.f8) (by kernel_rfl) (by kernel_rfl) ?_
  refine ⟨fun c1 => ?_, fun c1 => ?_⟩
  · replace c1 : 4096 < s.size := by
      have : (4096 : Int) < (s.size : Int) := of_decide_eq_true c1
      omega
    exact ⟨kk (Msg.none, 2) (by unfold getMsg; rw [if_pos c1]), H.le_refl _⟩
  replace c1 : ¬ 4096 < s.size := by
    have : ¬ (4096 : Int) < (s.size : Int) := of_decide_eq_false c1
    omega
  replace hsz := hsz (by omega)
  have hb : b.length ≤ 2 ^ 32 := by omega
  intro xm hxm
  replace hxm : h xm = none := hxm
  refine (c_pieces W0 xm _).mono ?_
  rintro _ _ ⟨rfl, rfl⟩
  refine ⟨1, ?_⟩
  refine ⟨fun _ => ?_, fun c => (nomatch (show true = false from c))⟩
  refine ⟨.ifc 74 (.agg [.ptr xm 0]), ⟨by decide, rfl⟩, ?_⟩
  intro x hx
  have hn : x ≠ xm := by
    rintro rfl
    have : (some _ : Option HO) = none := (H.upd_get _ _ _).symm.trans hx
    cases this
  have hx0 : h x = none := by
    have := H.upd_ne h (x := xm) (y := x) (MC 0 0 0 0 (.own 4 []) (.own 1 []) 0) hn
    rw [← this]; exact hx
  subst eb
  have e0 : (h.upd xm (MC 0 0 0 0 (.own 4 []) (.own 1 []) 0)).upd x (RD s.data.toList ⟨0, 0⟩) = HG h x xm s.data.toList ⟨0, 0⟩ (MC 0 0 0 0 (.own 4 []) (.own 1 []) 0) := H.upd_comm _ _ _ (Ne.symm hn)
  have hle : ∀ (s1 : RS) (m : HO), H.le h (HG h x xm s.data.toList s1 m) := by
    intro s1 m y o hy
    by_cases h1 : y = xm
    · subst h1; rw [hxm] at hy; cases hy
    · by_cases h2 : y = x
      · subst h2; rw [hx0] at hy; cases hy
      · unfold HG; rw [H.upd_ne _ _ h1, H.upd_ne _ _ h2]; exact hy
  have cn1 := c_nget W0 0 0 0 0 0 (.own 4 []) (.own 1 []) 0 (by decide) s.data.toList ⟨0, 0⟩ x xm hn (by omega) hs0 h
  rw [e1, ← e0] at cn1
  refine cn1.mono ?_
  rintro _ _ ⟨rfl, rfl⟩
  refine ⟨by show inI64 _; unfold inI64; decide, ?_⟩
  have cn2 := c_nget W0 k 0 0 0 0 (.own 4 []) (.own 1 []) 1 (by decide) s.data.toList s1 x xm hn (by omega) hs1 h
  rw [e2] at cn2
  have cn3 := c_nget W0 k f 0 0 0 (.own 4 []) (.own 1 []) 2 (by decide) s.data.toList s2 x xm hn (by omega) hs2 h
  rw [e3] at cn3
  have cn4 := c_nget W0 k f t 0 0 (.own 4 []) (.own 1 []) 3 (by decide) s.data.toList s3 x xm hn (by omega) hs3 h
  rw [e4] at cn4
  have cn5 := c_nget W0 k f t i 0 (.own 4 []) (.own 1 []) 6 (by decide) s.data.toList s4 x xm hn (by omega) hs4 h
  rw [e5] at cn5
  have cn6 := c_mget W0 k f t i n (.own 1 []) s.data.toList s5 x xm hn hb hs5 h
  rw [e6] at cn6
  have cn7 := c_tget W0 k f t i n (.own 4 (m.map fun m => .agg m.v)) s.data.toList s6 x xm hn hb hs6 h
  rw [e7] at cn7
  refine ⟨[2, 4, 5, 16, 17, 18], 3, fun mm xs lo h2 => ∃ (j : Nat) (q : Int) (sj : RS) (mj : HO), xs = [.lp 0 0, .lp 1 0, .lp 2 0, .own 1 (piecesV xm), .v (V.i 7), .v (V.i q)] ∧ lo = [.cells [.v (V.i 0), .v (V.i 0), .v (V.i 0), .v (V.i 0), .own 4 [], .own 1 [], .v (V.i 0)], .fwd x, .fwd xm] ∧ h2 = HG h x xm s.data.toList sj mj ∧ mm + j = 7 ∧ q = j ∧ 1 ≤ j ∧
      [(s1, MC k 0 0 0 (.own 4 []) (.own 1 []) 0), (s2, MC k f 0 0 (.own 4 []) (.own 1 []) 0), (s3, MC k f t 0 (.own 4 []) (.own 1 []) 0), (s4, MC k f t i (.own 4 []) (.own 1 []) 0), (s5, MC k f t i (.own 4 []) (.own 1 []) n), (s6, MC k f t i (.own 4 (m.map fun m => .agg m.v)) (.own 1 []) n), (s7, MC k f t i (.own 4 (m.map fun m => .agg m.v)) (.own 1 (l.map V.s)) n)][j - 1]? = some (sj, mj),
    ⟨6, 1, _, _, _, rfl, rfl, rfl, by decide, rfl, Nat.le_refl 1, rfl⟩, ?_⟩
  rintro mm xs lo h2 ⟨j, q, sj, mj, rfl, rfl, rfl, hj, rfl, hj1, hsj⟩
  replace hj : (mm : Nat) + j = 7 := hj
  rcases Nat.eq_or_lt_of_le (show 1 ≤ j by omega) with rfl | hk1
  · obtain rfl : mm = 6 := by omega
    cases hsj
    refine ⟨fun _ => ?_, fun c => (nomatch (show true = false from c))⟩
    refine ⟨.ifc 74 (.agg [.ptr xm 1]), ⟨by decide, rfl⟩, ?_⟩
    refine cn2.mono ?_
    rintro _ _ ⟨rfl, rfl⟩
    refine ⟨by show inI64 _; unfold inI64; decide, ?_⟩
    exact ⟨5, by decide, 2, _, _, _, rfl, rfl, rfl, by decide, rfl, by decide, rfl⟩
  rcases Nat.eq_or_lt_of_le (show 2 ≤ j by omega) with rfl | hk2
  · obtain rfl : mm = 5 := by omega
    cases hsj
    refine ⟨fun _ => ?_, fun c => (nomatch (show true = false from c))⟩
    refine ⟨.ifc 74 (.agg [.ptr xm 2]), ⟨by decide, rfl⟩, ?_⟩
    refine cn3.mono ?_
    rintro _ _ ⟨rfl, rfl⟩
    refine ⟨by show inI64 _; unfold inI64; decide, ?_⟩
    exact ⟨4, by decide, 3, _, _, _, rfl, rfl, rfl, by decide, rfl, by decide, rfl⟩
  rcases Nat.eq_or_lt_of_le (show 3 ≤ j by omega) with rfl | hk3
  · obtain rfl : mm = 4 := by omega
    cases hsj
    refine ⟨fun _ => ?_, fun c => (nomatch (show true = false from c))⟩
    refine ⟨.ifc 74 (.agg [.ptr xm 3]), ⟨by decide, rfl⟩, ?_⟩
    refine cn4.mono ?_
    rintro _ _ ⟨rfl, rfl⟩
    refine ⟨by show inI64 _; unfold inI64; decide, ?_⟩
    exact ⟨3, by decide, 4, _, _, _, rfl, rfl, rfl, by decide, rfl, by decide, rfl⟩
  rcases Nat.eq_or_lt_of_le (show 4 ≤ j by omega) with rfl | hk4
  · obtain rfl : mm = 3 := by omega
    cases hsj
    refine ⟨fun _ => ?_, fun c => (nomatch (show true = false from c))⟩
    refine ⟨.ifc 74 (.agg [.ptr xm 6]), ⟨by decide, rfl⟩, ?_⟩
    refine cn5.mono ?_
    rintro _ _ ⟨rfl, rfl⟩
    refine ⟨by show inI64 _; unfold inI64; decide, ?_⟩
    exact ⟨2, by decide, 5, _, _, _, rfl, rfl, rfl, by decide, rfl, by decide, rfl⟩
  rcases Nat.eq_or_lt_of_le (show 5 ≤ j by omega) with rfl | hk5
  · obtain rfl : mm = 2 := by omega
    cases hsj
    refine ⟨fun _ => ?_, fun c => (nomatch (show true = false from c))⟩
    refine ⟨.ifc 77 (.agg [.ptr xm 4]), ⟨by decide, rfl⟩, ?_⟩
    refine cn6.mono ?_
    rintro _ _ ⟨rfl, rfl⟩
    refine ⟨by show inI64 _; unfold inI64; decide, ?_⟩
    exact ⟨1, by decide, 6, _, _, _, rfl, rfl, rfl, by decide, rfl, by decide, rfl⟩
  rcases Nat.eq_or_lt_of_le (show 6 ≤ j by omega) with rfl | hk6
  · obtain rfl : mm = 1 := by omega
    cases hsj
    refine ⟨fun _ => ?_, fun c => (nomatch (show true = false from c))⟩
    refine ⟨.ifc 80 (.agg [.ptr xm 5]), ⟨by decide, rfl⟩, ?_⟩
    refine cn7.mono ?_
    rintro _ _ ⟨rfl, rfl⟩
    refine ⟨by show inI64 _; unfold inI64; decide, ?_⟩
    exact ⟨0, by decide, 7, _, _, _, rfl, rfl, rfl, by decide, rfl, by decide, rfl⟩
  obtain rfl : j = 7 := by omega
  cases hsj
  refine ⟨fun c => (nomatch (show false = true from c)), fun _ => ?_⟩
  have hl := bytes_length s.data.toList
  have cf : ∀ (s8 : RS) (e : Nat), ACalls Tryz.prog W0 18 [.v (.ptr x 0), .v (V.i e)] (HG h x xm s.data.toList s8 (MC k f t i (.own 4 (m.map fun m => .agg m.v)) (.own 1 (l.map V.s)) n)) fun r h' => r = .v (.tup []) ∧ h' = HG h x xm s.data.toList (s8.fail e) (MC k f t i (.own 4 (m.map fun m => .agg m.v)) (.own 1 (l.map V.s)) n) := by
    intro s8 e
    have := c_wfail W0 s.data.toList s8 e x (HG.x (h := h) (b := s.data.toList) (s := s8) (m := (MC k f t i (.own 4 (m.map fun m => .agg m.v)) (.own 1 (l.map V.s)) n)) hn)
    rw [HG.updx hn] at this
    exact this
  refine ⟨_, ⟨HG.x hn, trivial⟩, ?_⟩
  refine ⟨_, ⟨HG.x hn, trivial⟩, ?_⟩
  refine ⟨fun c5 => ?_, fun c5 => ?_⟩
  · replace c5 : s7.p < s.data.toList.length := by
      have : (s7.p : Int) < ((V.bytes s.data.toList).length : Int) := of_decide_eq_true c5
      omega
    have he8 : rEnd s.data.toList s7 = s7.fail 6 := by unfold rEnd; rw [if_pos c5]
    refine (cf s7 6).mono ?_
    rintro _ _ ⟨rfl, rfl⟩
    refine ⟨_, ⟨HG.m, trivial⟩, ?_⟩
    refine (c_checkMsg W0 hD ⟨k, f, t, i, m, l, n⟩ hsz _).mono ?_
    rintro _ _ ⟨rfl, rfl⟩
    refine ⟨fun c8 => ?_, fun c8 => ?_⟩
    · replace c8 := not_t c8
      refine (cf (RS.fail s7 6) 1).mono ?_
      rintro _ _ ⟨rfl, rfl⟩
      have hne : ¬ (RS.fail (RS.fail s7 6) 1).e = 0 := by
        intro h0
        by_cases h1 : (RS.fail s7 6).e = 0
        · rw [RS.fail_pos h1] at h0; cases h0
        · rw [RS.fail_neg h1] at h0; exact h1 h0
      refine ⟨_, ⟨HG.x hn, trivial⟩, ?_⟩
      refine ⟨fun c9 => ?_, fun c9 => ?_⟩
      · refine ⟨0, ?_⟩
        refine ⟨_, ⟨HG.x hn, trivial⟩, ?_⟩
        exact ⟨kk (Msg.none, (RS.fail (RS.fail s7 6) 1).e) (by simp only [getMsg, if_neg c1, er, he8, c8, Bool.false_eq_true, if_false, if_neg hne]), hle _ _⟩
      · exact absurd (by simpa using (show (((RS.fail (RS.fail s7 6) 1).e : Int) != 0) = false from c9)) hne
    · replace c8 := not_f c8
      refine ⟨_, ⟨HG.x hn, trivial⟩, ?_⟩
      refine ⟨fun c9 => ?_, fun c9 => ?_⟩
      · have hne : ¬ (RS.fail s7 6).e = 0 := by simpa using (show (((RS.fail s7 6).e : Int) != 0) = true from c9)
        refine ⟨0, ?_⟩
        refine ⟨_, ⟨HG.x hn, trivial⟩, ?_⟩
        exact ⟨kk (Msg.none, (RS.fail s7 6).e) (by simp only [getMsg, if_neg c1, er, he8, c8, if_true, if_neg hne]), hle _ _⟩
      · have hz : (RS.fail s7 6).e = 0 := by simpa using (show (((RS.fail s7 6).e : Int) != 0) = false from c9)
        refine ⟨_, ⟨HG.m, trivial⟩, ?_⟩
        exact ⟨kk (⟨k, f, t, i, m, l, n⟩, 0) (by simp only [getMsg, if_neg c1, er, he8, c8, if_true, if_pos hz]), hle _ _⟩
  · replace c5 : ¬ s7.p < s.data.toList.length := by
      have : ¬ (s7.p : Int) < ((V.bytes s.data.toList).length : Int) := of_decide_eq_false c5
      omega
    have he8 : rEnd s.data.toList s7 = s7 := by unfold rEnd; rw [if_neg c5]
    refine ⟨_, ⟨HG.m, trivial⟩, ?_⟩
    refine (c_checkMsg W0 hD ⟨k, f, t, i, m, l, n⟩ hsz _).mono ?_
    rintro _ _ ⟨rfl, rfl⟩
    refine ⟨fun c8 => ?_, fun c8 => ?_⟩
    · replace c8 := not_t c8
      refine (cf s7 1).mono ?_
      rintro _ _ ⟨rfl, rfl⟩
      have hne : ¬ (RS.fail s7 1).e = 0 := by
        intro h0
        by_cases h1 : s7.e = 0
        · rw [RS.fail_pos h1] at h0; cases h0
        · rw [RS.fail_neg h1] at h0; exact h1 h0
      refine ⟨_, ⟨HG.x hn, trivial⟩, ?_⟩
      refine ⟨fun c9 => ?_, fun c9 => ?_⟩
      · refine ⟨0, ?_⟩
        refine ⟨_, ⟨HG.x hn, trivial⟩, ?_⟩
        exact ⟨kk (Msg.none, (RS.fail s7 1).e) (by simp only [getMsg, if_neg c1, er, he8, c8, Bool.false_eq_true, if_false, if_neg hne]), hle _ _⟩
      · exact absurd (by simpa using (show (((RS.fail s7 1).e : Int) != 0) = false from c9)) hne
    · replace c8 := not_f c8
      refine ⟨_, ⟨HG.x hn, trivial⟩, ?_⟩
      refine ⟨fun c9 => ?_, fun c9 => ?_⟩
      · have hne : ¬ s7.e = 0 := by simpa using (show ((s7.e : Int) != 0) = true from c9)
        refine ⟨0, ?_⟩
        refine ⟨_, ⟨HG.x hn, trivial⟩, ?_⟩
        exact ⟨kk (Msg.none, s7.e) (by simp only [getMsg, if_neg c1, er, he8, c8, if_true, if_neg hne]), hle _ _⟩
      · have hz : s7.e = 0 := by simpa using (show ((s7.e : Int) != 0) = false from c9)
        refine ⟨_, ⟨HG.m, trivial⟩, ?_⟩
        exact ⟨kk (⟨k, f, t, i, m, l, n⟩, 0) (by simp only [getMsg, if_neg c1, er, he8, c8, if_true, if_pos hz]), hle _ _⟩

theorem getMsg_sized (s : Str) (hs : s.size ≤ 2 ^ 40) : (getMsg s).1.sized ∧ (getMsg s).1.muts.length ≤ s.size ∧ (getMsg s).1.keys.length ≤ s.size := by
  have hn : Msg.none.sized ∧ Msg.none.muts.length ≤ s.size ∧ Msg.none.keys.length ≤ s.size := ⟨fun x hx => (by cases hx), Nat.zero_le _, Nat.zero_le _⟩
  have hl := str_len s
  have hr : (rMsg s.data.toList ⟨0, 0⟩).1.sized ∧ (rMsg s.data.toList ⟨0, 0⟩).1.muts.length ≤ s.size ∧ (rMsg s.data.toList ⟨0, 0⟩).1.keys.length ≤ s.size := by
    refine ⟨fun x hx => ?_, ?_, ?_⟩
    · simp only [rMsg] at hx
      obtain ⟨s2, rfl⟩ := rMany_mem _ _ _ _ hx
      exact rMut_sized _ (by omega) s2
    · simp only [rMsg]; rw [← hl]; exact rList_len _ _ _
    · simp only [rMsg]; rw [← hl]; exact rList_len _ _ _
  unfold getMsg
  split
  · exact hn
  · simp only []
    generalize (if checkMsg (rMsg s.data.toList ⟨0, 0⟩).1 = true then (rMsg s.data.toList ⟨0, 0⟩).2 else (rMsg s.data.toList ⟨0, 0⟩).2.fail 1).e = e
    by_cases h0 : e = 0
    · rw [if_pos h0]; exact hr
    · rw [if_neg h0]; exact hn
end Go.AI

namespace Go.AI
open Go.Proofs Go
variable (W0 : World)
set_option maxRecDepth 20000
set_option maxHeartbeats 2000000

theorem c_same06 (a b : Cell) (h : H) : ACalls Tryz.prog W0 67 [.v (.agg a.v), .v (.agg b.v)] h fun r h' => r = .v (V.b (sameCell a b)) ∧ h' = h := by
  obtain ⟨a1, a2, a3, a4⟩ := a
  obtain ⟨b1, b2, b3, b4⟩ := b
  refine ACalls.of (C := CO [] fun _ => ([], [], 0)) (cOkO _ _) hP (fn := Tryz.f67) (by kernel_rfl) (by kernel_rfl) ?_
  exact ⟨rfl, rfl⟩

theorem c_sameCols (l1 l2 : List Col) (hl : l1.length ≤ 2 ^ 60) (h : H) : ACalls Tryz.prog W0 68 [.v (.sl 5 (l1.map (fun c => V.agg c.v))), .v (.sl 5 (l2.map (fun c => V.agg c.v)))] h fun r h' => r = .v (V.b (sameL sameCol l1 l2)) ∧ h' = h := by
  have h1 : (l1.map (fun c => V.agg c.v)).length = l1.length := List.length_map ..
  have h2 : (l2.map (fun c => V.agg c.v)).length = l2.length := List.length_map ..
  have kk : ∀ x : Bool, sameL sameCol l1 l2 = x → A.v (V.b x) = A.v (V.b (sameL sameCol l1 l2)) := by rintro x rfl; rfl
  refine ACalls.of (C := CO [] fun i => match i with | 6 => ([0, 1, 2, 3, 4, 5, 6, 7, 8, 9, 10, 11, 12, 13, 14, 15, 16, 17, 18, 19, 20, 21, 22, 23, 24], [], 1) | _ => ([], [], 0)) (cOkO _ _) hP (fn := Tryz.f68) (by kernel_rfl) (by kernel_rfl) ?_
  refine ⟨fun c1 => ?_, fun c1 => ?_⟩
  · have c2 : (((l1.map (fun c => V.agg c.v)).length : Int) != ((l2.map (fun c => V.agg c.v)).length : Int)) = true := c1
    rw [h1, h2] at c2
    have c3 : l1.length ≠ l2.length := by
      intro e; rw [e] at c2; simp at c2
    exact ⟨kk false (sameL_len c3), rfl⟩
  have c3 : l1.length = l2.length := by
    have c2 : (((l1.map (fun c => V.agg c.v)).length : Int) != ((l2.map (fun c => V.agg c.v)).length : Int)) = false := c1
    rw [h1, h2] at c2
    have : (l1.length : Int) = (l2.length : Int) := by simpa using c2
    omega
  refine ⟨0, [0, 1, 5], 0, fun m xs lo hh => lo = [] ∧ ∃ (d1 r1 d2 r2 : List Col) (k : Int), xs = [.v (.sl 5 (l1.map (fun c => V.agg c.v))), .v (.sl 5 (l2.map (fun c => V.agg c.v))), .v (V.i k)] ∧ hh = h ∧ m = r1.length ∧ l1 = d1 ++ r1 ∧ l2 = d2 ++ r2 ∧ k = d1.length ∧ d1.length = d2.length ∧ sameL sameCol l1 l2 = sameL sameCol r1 r2,
    ⟨l1.length, rfl, [], l1, [], l2, _, rfl, rfl, rfl, rfl, rfl, rfl, rfl, rfl⟩, ?_⟩
  rintro m xs lo hh ⟨rfl, d1, r1, d2, r2, k, rfl, rfl, rfl, e1, e2, rfl, e3, e4⟩
  have e5 : l1.length = d1.length + r1.length := by rw [e1, List.length_append]
  have e6 : l2.length = d2.length + r2.length := by rw [e2, List.length_append]
  refine ⟨fun c6 => ?_, fun c6 => ?_⟩
  · replace c6 : (d1.length : Int) < ((l1.map (fun c => V.agg c.v)).length : Int) := of_decide_eq_true c6
    cases r1 with
    | nil => exact absurd e5 (by simp only [List.length_nil]; omega)
    | cons c r1 =>
    cases r2 with
    | nil => exact absurd e6 (by simp only [List.length_nil, List.length_cons] at e5 ⊢; omega)
    | cons d r2 =>
    simp only [List.length_cons] at e5 e6
    have g1 : (l1.map (fun c => V.agg c.v))[((d1.length : Nat) : Int).toNat]? = some (.agg c.v) := by rw [Int.toNat_natCast, e1]; exact map_get _ d1 c r1
    have g2 : (l2.map (fun c => V.agg c.v))[((d1.length : Nat) : Int).toNat]? = some (.agg d.v) := by rw [Int.toNat_natCast, e2, e3]; exact map_get _ d2 d r2
    have hst : sameL sameCol (c :: r1) (d :: r2) = ((sameCol) c d && sameL sameCol r1 r2) := rfl
    refine ⟨[], fun _ => false, ?_⟩
    refine ⟨.agg c.v, ⟨by show (0:Int) ≤ (d1.length : Int); omega, g1⟩, ?_⟩
    refine ⟨Nat.zero_le _, ?_⟩
    refine ⟨.agg d.v, ⟨by show (0:Int) ≤ (d1.length : Int); omega, g2⟩, ?_⟩
    refine ⟨Nat.zero_le _, ?_⟩
    refine ⟨.agg c.v, fun hg => ⟨by show (0:Int) ≤ (d1.length : Int); omega, g1⟩, ?_⟩
    refine ⟨Nat.le_of_ble_eq_true rfl, ?_⟩
    refine ⟨.agg d.v, fun hg => ⟨by show (0:Int) ≤ (d1.length : Int); omega, g2⟩, ?_⟩
    refine ⟨Nat.le_of_ble_eq_true rfl, ?_⟩
    refine ⟨rfl, V.b (sameCell c.cell d.cell), fun hg => c_same06 W0 c.cell d.cell _, ?_⟩
    have conv : ∀ {x : Bool}, (bif !decide (c.name = d.name) then true else !sameCell c.cell d.cell) = x → (decide (c.name = d.name) && sameCell c.cell d.cell) = !x := by
      intro x hx
      rw [← hx]
      cases decide (c.name = d.name) <;> cases sameCell c.cell d.cell <;> rfl
    have conv2 := @conv false
    replace conv := @conv true

    refine ⟨fun c8 => ?_, fun c8 => ?_⟩
    · have c9 : (sameCol) c d = false := conv c8
      exact ⟨kk false (by rw [e4, hst, c9]; rfl), rfl⟩
    · have c9 : (sameCol) c d = true := conv2 c8
      refine ⟨by show inI64 ((d1.length : Int) + 1); unfold inI64; omega, ?_⟩
      refine ⟨r1.length, by show r1.length < r1.length + 1; omega, rfl, d1 ++ [c], r1, d2 ++ [d], r2, _, rfl, rfl, rfl, by rw [e1]; simp, by rw [e2]; simp, by simp, by simp [e3], ?_⟩
      rw [e4, hst, c9]; rfl
  · replace c6 : ¬ (d1.length : Int) < ((l1.map (fun c => V.agg c.v)).length : Int) := of_decide_eq_false c6
    cases r1 with
    | cons c r1 => exact absurd e5 (by simp only [List.length_cons]; omega)
    | nil =>
    cases r2 with
    | cons d r2 => exact absurd e6 (by simp only [List.length_nil, List.length_cons] at e5 ⊢; omega)
    | nil => exact ⟨kk true (by rw [e4]; rfl), rfl⟩

theorem c_same07 (a b : Row) (hl : a.cols.length ≤ 2 ^ 60) (h : H) : ACalls Tryz.prog W0 61 [.v (.agg a.v), .v (.agg b.v)] h fun r h' => r = .v (V.b (sameRow a b)) ∧ h' = h := by
  obtain ⟨a1, ⟨p1, p2, p3, p4⟩, a3, a4, a5⟩ := a
  obtain ⟨b1, ⟨q1, q2, q3, q4⟩, b3, b4, b5⟩ := b
  refine ACalls.of (C := CO [] fun _ => ([], [], 0)) (cOkO _ _) hP (fn := Tryz.f61) (by kernel_rfl) (by kernel_rfl) ?_
  refine ⟨rfl, V.b (sameCell ⟨p1, p2, p3, p4⟩ ⟨q1, q2, q3, q4⟩), fun hg => c_same06 W0 ⟨p1, p2, p3, p4⟩ ⟨q1, q2, q3, q4⟩ _, ?_⟩
  refine ⟨rfl, V.b (sameL sameCol a5 b5), fun hg => c_sameCols W0 a5 b5 hl _, ?_⟩
  exact ⟨rfl, rfl⟩

theorem c_sameRows (l1 l2 : List Row) (hl : l1.length ≤ 2 ^ 60) (hk : ∀ c ∈ l1, c.cols.length ≤ 2 ^ 60) (h : H) : ACalls Tryz.prog W0 53 [.v (.sl 8 (l1.map (fun c => V.agg c.v))), .v (.sl 8 (l2.map (fun c => V.agg c.v)))] h fun r h' => r = .v (V.b (sameL sameRow l1 l2)) ∧ h' = h := by
  have h1 : (l1.map (fun c => V.agg c.v)).length = l1.length := List.length_map ..
  have h2 : (l2.map (fun c => V.agg c.v)).length = l2.length := List.length_map ..
  have kk : ∀ x : Bool, sameL sameRow l1 l2 = x → A.v (V.b x) = A.v (V.b (sameL sameRow l1 l2)) := by rintro x rfl; rfl
  refine ACalls.of (C := CO [] fun i => match i with | 6 => ([0, 1, 2, 3, 4, 5, 6, 7, 8, 9], [], 1) | _ => ([], [], 0)) (cOkO _ _) hP (fn := Tryz.f53) (by kernel_rfl) (by kernel_rfl) ?_
  refine ⟨fun c1 => ?_, fun c1 => ?_⟩
  · have c2 : (((l1.map (fun c => V.agg c.v)).length : Int) != ((l2.map (fun c => V.agg c.v)).length : Int)) = true := c1
    rw [h1, h2] at c2
    have c3 : l1.length ≠ l2.length := by
      intro e; rw [e] at c2; simp at c2
    exact ⟨kk false (sameL_len c3), rfl⟩
  have c3 : l1.length = l2.length := by
    have c2 : (((l1.map (fun c => V.agg c.v)).length : Int) != ((l2.map (fun c => V.agg c.v)).length : Int)) = false := c1
    rw [h1, h2] at c2
    have : (l1.length : Int) = (l2.length : Int) := by simpa using c2
    omega
  refine ⟨0, [0, 1, 5], 0, fun m xs lo hh => lo = [] ∧ ∃ (d1 r1 d2 r2 : List Row) (k : Int), xs = [.v (.sl 8 (l1.map (fun c => V.agg c.v))), .v (.sl 8 (l2.map (fun c => V.agg c.v))), .v (V.i k)] ∧ hh = h ∧ m = r1.length ∧ l1 = d1 ++ r1 ∧ l2 = d2 ++ r2 ∧ k = d1.length ∧ d1.length = d2.length ∧ sameL sameRow l1 l2 = sameL sameRow r1 r2,
    ⟨l1.length, rfl, [], l1, [], l2, _, rfl, rfl, rfl, rfl, rfl, rfl, rfl, rfl⟩, ?_⟩
  rintro m xs lo hh ⟨rfl, d1, r1, d2, r2, k, rfl, rfl, rfl, e1, e2, rfl, e3, e4⟩
  have e5 : l1.length = d1.length + r1.length := by rw [e1, List.length_append]
  have e6 : l2.length = d2.length + r2.length := by rw [e2, List.length_append]
  refine ⟨fun c6 => ?_, fun c6 => ?_⟩
  · replace c6 : (d1.length : Int) < ((l1.map (fun c => V.agg c.v)).length : Int) := of_decide_eq_true c6
    cases r1 with
    | nil => exact absurd e5 (by simp only [List.length_nil]; omega)
    | cons c r1 =>
    cases r2 with
    | nil => exact absurd e6 (by simp only [List.length_nil, List.length_cons] at e5 ⊢; omega)
    | cons d r2 =>
    simp only [List.length_cons] at e5 e6
    have g1 : (l1.map (fun c => V.agg c.v))[((d1.length : Nat) : Int).toNat]? = some (.agg c.v) := by rw [Int.toNat_natCast, e1]; exact map_get _ d1 c r1
    have g2 : (l2.map (fun c => V.agg c.v))[((d1.length : Nat) : Int).toNat]? = some (.agg d.v) := by rw [Int.toNat_natCast, e2, e3]; exact map_get _ d2 d r2
    have hst : sameL sameRow (c :: r1) (d :: r2) = ((sameRow) c d && sameL sameRow r1 r2) := rfl
    refine ⟨[], fun _ => false, ?_⟩
    refine ⟨.agg c.v, ⟨by show (0:Int) ≤ (d1.length : Int); omega, g1⟩, ?_⟩
    refine ⟨.agg d.v, ⟨by show (0:Int) ≤ (d1.length : Int); omega, g2⟩, ?_⟩
    refine (c_same07 W0 c d (hk c (by rw [e1]; simp)) _).mono ?_
    rintro _ _ ⟨rfl, rfl⟩
    have conv : ∀ {x : Bool}, (!sameRow c d) = x → sameRow c d = !x := by
      intro x hx; rw [← hx]; cases sameRow c d <;> rfl
    have conv2 := @conv false
    replace conv := @conv true

    refine ⟨fun c8 => ?_, fun c8 => ?_⟩
    · have c9 : (sameRow) c d = false := conv c8
      exact ⟨kk false (by rw [e4, hst, c9]; rfl), rfl⟩
    · have c9 : (sameRow) c d = true := conv2 c8
      refine ⟨by show inI64 ((d1.length : Int) + 1); unfold inI64; omega, ?_⟩
      refine ⟨r1.length, by show r1.length < r1.length + 1; omega, rfl, d1 ++ [c], r1, d2 ++ [d], r2, _, rfl, rfl, rfl, by rw [e1]; simp, by rw [e2]; simp, by simp, by simp [e3], ?_⟩
      rw [e4, hst, c9]; rfl
  · replace c6 : ¬ (d1.length : Int) < ((l1.map (fun c => V.agg c.v)).length : Int) := of_decide_eq_false c6
    cases r1 with
    | cons c r1 => exact absurd e5 (by simp only [List.length_cons]; omega)
    | nil =>
    cases r2 with
    | cons d r2 => exact absurd e6 (by simp only [List.length_nil, List.length_cons] at e5 ⊢; omega)
    | nil => exact ⟨kk true (by rw [e4]; rfl), rfl⟩

theorem c_same08 (a b : Part) (ha : a.sized) (h : H) : ACalls Tryz.prog W0 41 [.v (.agg a.v), .v (.agg b.v)] h fun r h' => r = .v (V.b (samePart a b)) ∧ h' = h := by
  obtain ⟨a1, a2, a3⟩ := a
  obtain ⟨b1, b2, b3⟩ := b
  have h1 : a3.length ≤ 2 ^ 45 := ha.1
  have h2 : ∀ c ∈ a3, c.cols.length ≤ 2 ^ 45 := fun c hc => (ha.2 c hc).1
  refine ACalls.of (C := CO [] fun _ => ([], [], 0)) (cOkO _ _) hP (fn := Tryz.f41) (by kernel_rfl) (by kernel_rfl) ?_
  refine ⟨rfl, V.b (sameL sameRow a3 b3), fun hg => c_sameRows W0 a3 b3 (by omega) (fun c hc => by have := h2 c hc; omega) _, ?_⟩
  exact ⟨rfl, rfl⟩

theorem c_sameMuts (l1 l2 : List Mut) (hl : l1.length ≤ 2 ^ 60) (hk : ∀ c ∈ l1, c.sized) (h : H) : ACalls Tryz.prog W0 25 [.v (.sl 4 (l1.map (fun c => V.agg c.v))), .v (.sl 4 (l2.map (fun c => V.agg c.v)))] h fun r h' => r = .v (V.b (sameL sameMut l1 l2)) ∧ h' = h := by
  have h1 : (l1.map (fun c => V.agg c.v)).length = l1.length := List.length_map ..
  have h2 : (l2.map (fun c => V.agg c.v)).length = l2.length := List.length_map ..
  have kk : ∀ x : Bool, sameL sameMut l1 l2 = x → A.v (V.b x) = A.v (V.b (sameL sameMut l1 l2)) := by rintro x rfl; rfl
  refine ACalls.of (C := CO [] fun i => match i with | 6 => ([0, 1, 2, 3, 4, 5, 6, 7, 8, 9, 10, 11, 12, 13, 14, 15, 16, 17, 18, 19, 20, 21, 22, 23, 24], [], 1) | _ => ([], [], 0)) (cOkO _ _) hP (fn := Tryz.f25) (by kernel_rfl) (by kernel_rfl) ?_
  refine ⟨fun c1 => ?_, fun c1 => ?_⟩
  · have c2 : (((l1.map (fun c => V.agg c.v)).length : Int) != ((l2.map (fun c => V.agg c.v)).length : Int)) = true := c1
    rw [h1, h2] at c2
    have c3 : l1.length ≠ l2.length := by
      intro e; rw [e] at c2; simp at c2
    exact ⟨kk false (sameL_len c3), rfl⟩
  have c3 : l1.length = l2.length := by
    have c2 : (((l1.map (fun c => V.agg c.v)).length : Int) != ((l2.map (fun c => V.agg c.v)).length : Int)) = false := c1
    rw [h1, h2] at c2
    have : (l1.length : Int) = (l2.length : Int) := by simpa using c2
    omega
  refine ⟨0, [0, 1, 5], 0, fun m xs lo hh => lo = [] ∧ ∃ (d1 r1 d2 r2 : List Mut) (k : Int), xs = [.v (.sl 4 (l1.map (fun c => V.agg c.v))), .v (.sl 4 (l2.map (fun c => V.agg c.v))), .v (V.i k)] ∧ hh = h ∧ m = r1.length ∧ l1 = d1 ++ r1 ∧ l2 = d2 ++ r2 ∧ k = d1.length ∧ d1.length = d2.length ∧ sameL sameMut l1 l2 = sameL sameMut r1 r2,
    ⟨l1.length, rfl, [], l1, [], l2, _, rfl, rfl, rfl, rfl, rfl, rfl, rfl, rfl⟩, ?_⟩
  rintro m xs lo hh ⟨rfl, d1, r1, d2, r2, k, rfl, rfl, rfl, e1, e2, rfl, e3, e4⟩
  have e5 : l1.length = d1.length + r1.length := by rw [e1, List.length_append]
  have e6 : l2.length = d2.length + r2.length := by rw [e2, List.length_append]
  refine ⟨fun c6 => ?_, fun c6 => ?_⟩
  · replace c6 : (d1.length : Int) < ((l1.map (fun c => V.agg c.v)).length : Int) := of_decide_eq_true c6
    cases r1 with
    | nil => exact absurd e5 (by simp only [List.length_nil]; omega)
    | cons c r1 =>
    cases r2 with
    | nil => exact absurd e6 (by simp only [List.length_nil, List.length_cons] at e5 ⊢; omega)
    | cons d r2 =>
    simp only [List.length_cons] at e5 e6
    have g1 : (l1.map (fun c => V.agg c.v))[((d1.length : Nat) : Int).toNat]? = some (.agg c.v) := by rw [Int.toNat_natCast, e1]; exact map_get _ d1 c r1
    have g2 : (l2.map (fun c => V.agg c.v))[((d1.length : Nat) : Int).toNat]? = some (.agg d.v) := by rw [Int.toNat_natCast, e2, e3]; exact map_get _ d2 d r2
    have hst : sameL sameMut (c :: r1) (d :: r2) = ((sameMut) c d && sameL sameMut r1 r2) := rfl
    refine ⟨[], fun _ => false, ?_⟩
    refine ⟨.agg c.v, ⟨by show (0:Int) ≤ (d1.length : Int); omega, g1⟩, ?_⟩
    refine ⟨Nat.zero_le _, ?_⟩
    refine ⟨.agg d.v, ⟨by show (0:Int) ≤ (d1.length : Int); omega, g2⟩, ?_⟩
    refine ⟨Nat.zero_le _, ?_⟩
    refine ⟨.agg c.v, fun hg => ⟨by show (0:Int) ≤ (d1.length : Int); omega, g1⟩, ?_⟩
    refine ⟨Nat.le_of_ble_eq_true rfl, ?_⟩
    refine ⟨.agg d.v, fun hg => ⟨by show (0:Int) ≤ (d1.length : Int); omega, g2⟩, ?_⟩
    refine ⟨Nat.le_of_ble_eq_true rfl, ?_⟩
    refine ⟨rfl, V.b (samePart c.part d.part), fun hg => c_same08 W0 c.part d.part (hk c (by rw [e1]; simp)).2 _, ?_⟩
    have conv : ∀ {x : Bool}, (bif !decide (c.table = d.table) then true else !samePart c.part d.part) = x → (decide (c.table = d.table) && samePart c.part d.part) = !x := by
      intro x hx
      rw [← hx]
      cases decide (c.table = d.table) <;> cases samePart c.part d.part <;> rfl
    have conv2 := @conv false
    replace conv := @conv true

    refine ⟨fun c8 => ?_, fun c8 => ?_⟩
    · have c9 : (sameMut) c d = false := conv c8
      exact ⟨kk false (by rw [e4, hst, c9]; rfl), rfl⟩
    · have c9 : (sameMut) c d = true := conv2 c8
      refine ⟨by show inI64 ((d1.length : Int) + 1); unfold inI64; omega, ?_⟩
      refine ⟨r1.length, by show r1.length < r1.length + 1; omega, rfl, d1 ++ [c], r1, d2 ++ [d], r2, _, rfl, rfl, rfl, by rw [e1]; simp, by rw [e2]; simp, by simp, by simp [e3], ?_⟩
      rw [e4, hst, c9]; rfl
  · replace c6 : ¬ (d1.length : Int) < ((l1.map (fun c => V.agg c.v)).length : Int) := of_decide_eq_false c6
    cases r1 with
    | cons c r1 => exact absurd e5 (by simp only [List.length_cons]; omega)
    | nil =>
    cases r2 with
    | cons d r2 => exact absurd e6 (by simp only [List.length_nil, List.length_cons] at e5 ⊢; omega)
    | nil => exact ⟨kk true (by rw [e4]; rfl), rfl⟩

theorem c_sameStrs (l1 l2 : List Str) (hl : l1.length ≤ 2 ^ 60) (h : H) : ACalls Tryz.prog W0 26 [.v (.sl 1 (l1.map V.s)), .v (.sl 1 (l2.map V.s))] h fun r h' => r = .v (V.b (sameL (fun s t : Str => decide (s = t)) l1 l2)) ∧ h' = h := by
  have h1 : (l1.map V.s).length = l1.length := List.length_map ..
  have h2 : (l2.map V.s).length = l2.length := List.length_map ..
  have kk : ∀ x : Bool, sameL (fun s t : Str => decide (s = t)) l1 l2 = x → A.v (V.b x) = A.v (V.b (sameL (fun s t : Str => decide (s = t)) l1 l2)) := by rintro x rfl; rfl
  refine ACalls.of (C := CO [] fun i => match i with | 6 => ([0, 1, 2, 3, 4, 5, 6, 7, 8], [], 0) | _ => ([], [], 0)) (cOkO _ _) hP (fn := Tryz.f26) (by kernel_rfl) (by kernel_rfl) ?_
  refine ⟨fun c1 => ?_, fun c1 => ?_⟩
  · have c2 : (((l1.map V.s).length : Int) != ((l2.map V.s).length : Int)) = true := c1
    rw [h1, h2] at c2
    have c3 : l1.length ≠ l2.length := by
      intro e; rw [e] at c2; simp at c2
    exact ⟨kk false (sameL_len c3), rfl⟩
  have c3 : l1.length = l2.length := by
    have c2 : (((l1.map V.s).length : Int) != ((l2.map V.s).length : Int)) = false := c1
    rw [h1, h2] at c2
    have : (l1.length : Int) = (l2.length : Int) := by simpa using c2
    omega
  refine ⟨0, [0, 1, 5], 0, fun m xs lo hh => lo = [] ∧ ∃ (d1 r1 d2 r2 : List Str) (k : Int), xs = [.v (.sl 1 (l1.map V.s)), .v (.sl 1 (l2.map V.s)), .v (V.i k)] ∧ hh = h ∧ m = r1.length ∧ l1 = d1 ++ r1 ∧ l2 = d2 ++ r2 ∧ k = d1.length ∧ d1.length = d2.length ∧ sameL (fun s t : Str => decide (s = t)) l1 l2 = sameL (fun s t : Str => decide (s = t)) r1 r2,
    ⟨l1.length, rfl, [], l1, [], l2, _, rfl, rfl, rfl, rfl, rfl, rfl, rfl, rfl⟩, ?_⟩
  rintro m xs lo hh ⟨rfl, d1, r1, d2, r2, k, rfl, rfl, rfl, e1, e2, rfl, e3, e4⟩
  have e5 : l1.length = d1.length + r1.length := by rw [e1, List.length_append]
  have e6 : l2.length = d2.length + r2.length := by rw [e2, List.length_append]
  refine ⟨fun c6 => ?_, fun c6 => ?_⟩
  · replace c6 : (d1.length : Int) < ((l1.map V.s).length : Int) := of_decide_eq_true c6
    cases r1 with
    | nil => exact absurd e5 (by simp only [List.length_nil]; omega)
    | cons c r1 =>
    cases r2 with
    | nil => exact absurd e6 (by simp only [List.length_nil, List.length_cons] at e5 ⊢; omega)
    | cons d r2 =>
    simp only [List.length_cons] at e5 e6
    have g1 : (l1.map V.s)[((d1.length : Nat) : Int).toNat]? = some (V.s c) := by rw [Int.toNat_natCast, e1]; exact map_get _ d1 c r1
    have g2 : (l2.map V.s)[((d1.length : Nat) : Int).toNat]? = some (V.s d) := by rw [Int.toNat_natCast, e2, e3]; exact map_get _ d2 d r2
    have hst : sameL (fun s t : Str => decide (s = t)) (c :: r1) (d :: r2) = (((fun s t : Str => decide (s = t))) c d && sameL (fun s t : Str => decide (s = t)) r1 r2) := rfl
    refine ⟨V.s c, ⟨by show (0:Int) ≤ (d1.length : Int); omega, g1⟩, ?_⟩
    refine ⟨V.s d, ⟨by show (0:Int) ≤ (d1.length : Int); omega, g2⟩, ?_⟩
    have conv : ∀ {x : Bool}, (!decide (c = d)) = x → decide (c = d) = !x := by
      intro x hx; rw [← hx]; cases decide (c = d) <;> rfl
    have conv2 := @conv false
    replace conv := @conv true

    refine ⟨fun c8 => ?_, fun c8 => ?_⟩
    · have c9 : ((fun s t : Str => decide (s = t))) c d = false := conv c8
      exact ⟨kk false (by rw [e4, hst, c9]; rfl), rfl⟩
    · have c9 : ((fun s t : Str => decide (s = t))) c d = true := conv2 c8
      refine ⟨by show inI64 ((d1.length : Int) + 1); unfold inI64; omega, ?_⟩
      refine ⟨r1.length, by show r1.length < r1.length + 1; omega, rfl, d1 ++ [c], r1, d2 ++ [d], r2, _, rfl, rfl, rfl, by rw [e1]; simp, by rw [e2]; simp, by simp, by simp [e3], ?_⟩
      rw [e4, hst, c9]; rfl
  · replace c6 : ¬ (d1.length : Int) < ((l1.map V.s).length : Int) := of_decide_eq_false c6
    cases r1 with
    | cons c r1 => exact absurd e5 (by simp only [List.length_cons]; omega)
    | nil =>
    cases r2 with
    | cons d r2 => exact absurd e6 (by simp only [List.length_nil, List.length_cons] at e5 ⊢; omega)
    | nil => exact ⟨kk true (by rw [e4]; rfl), rfl⟩

theorem c_sameMsg (a b : Msg) (ha : a.sized) (h1 : a.muts.length ≤ 2 ^ 60) (h2 : a.keys.length ≤ 2 ^ 60) (h : H) : ACalls Tryz.prog W0 10 [.v (.agg a.v), .v (.agg b.v)] h fun r h' => r = .v (V.b (sameMsg a b)) ∧ h' = h := by
  obtain ⟨a1, a2, a3, a4, a5, a6, a7⟩ := a
  obtain ⟨b1, b2, b3, b4, b5, b6, b7⟩ := b
  refine ACalls.of (C := CO [] fun _ => ([], [], 0)) (cOkO _ _) hP (fn := Tryz.f10) (by kernel_rfl) (by kernel_rfl) ?_
  refine ⟨rfl, V.b (sameL sameMut a5 b5), fun hg => c_sameMuts W0 a5 b5 h1 ha _, ?_⟩
  refine ⟨rfl, V.b (sameL (fun s t : Str => decide (s = t)) a6 b6), fun hg => c_sameStrs W0 a6 b6 h2 _, ?_⟩
  exact ⟨rfl, rfl⟩
end Go.AI

namespace Go.AI
open Go.Proofs Go
variable (W0 : World)
set_option maxRecDepth 20000
set_option maxHeartbeats 2000000

theorem all_split {α : Type} {p : α → Bool} {l d r : List α} (hd : l = d ++ r) (h : d.all p = true) : l.all p = r.all p := by rw [hd, List.all_append, h, Bool.true_and]

theorem c_fewRow (r : Row) (h : H) : ACalls Tryz.prog W0 49 [.v (.agg r.v)] h fun x h' => x = .v (V.b (fewRow r)) ∧ h' = h := by
  obtain ⟨key, ⟨val, dead, at_, end_⟩, gone, shade, cols⟩ := r
  have h1 : (cols.map fun c => V.agg c.v).length = cols.length := List.length_map ..
  obtain ⟨p, hp⟩ : ∃ p : Col → Bool, p = fun c => decide (c.name.size ≤ 300) && decide (c.cell.val.size ≤ 300) := ⟨_, rfl⟩
  have hsp : fewRow ⟨key, ⟨val, dead, at_, end_⟩, gone, shade, cols⟩ = ((decide (key.size ≤ 1000) && decide (cols.length ≤ 20) && decide (val.size ≤ 1000)) && cols.all p) := by rw [hp]; rfl
  rw [hsp]
  refine ACalls.of (C := CO [] fun _ => ([], [], 0)) (cOkO _ _) hP (fn := Tryz.f49) (by kernel_rfl) (by kernel_rfl) ?_
  have conv : ∀ x : Bool, x = (bif (bif decide ((1000:Int) < (key.size : Int)) then true else decide ((20:Int) < ((cols.map fun c => V.agg c.v).length : Int))) then true else decide ((1000:Int) < (val.size : Int))) →
      x = !(decide (key.size ≤ 1000) && decide (cols.length ≤ 20) && decide (val.size ≤ 1000)) := by
    rintro x rfl
    rw [h1, dec_lt key.size 1000 1000 rfl, dec_lt cols.length 20 20 rfl, dec_lt val.size 1000 1000 rfl]
    cases decide (key.size ≤ 1000) <;> cases decide (cols.length ≤ 20) <;> cases decide (val.size ≤ 1000) <;> rfl
  refine ⟨fun c4 => ?_, fun c4 => ?_⟩
  · replace c4 := not_t ((conv _ rfl).symm.trans c4)
    rw [c4]
    exact ⟨rfl, rfl⟩
  replace c4 := not_f ((conv _ rfl).symm.trans c4)
  have hl : cols.length ≤ 20 := by
    have := c4
    simp only [Bool.and_eq_true, decide_eq_true_eq] at this
    exact this.1.2
  rw [c4]
  refine ⟨0, [1, 3], 1, fun m xs l h2 => ∃ (d r : List Col) (k : Int), xs = [.lp 0 0, .v (V.i k)] ∧ l = [.cells [.v (V.s key), .v (V.s val), .v (V.b dead), .v (V.i at_), .v (V.i end_), .v (V.i gone), .v (V.i shade), .v (.sl 5 (cols.map fun c => .agg c.v))]] ∧ h2 = h ∧ m = r.length ∧ cols = d ++ r ∧ k = d.length ∧ d.all p = true,
    ⟨cols.length, [], cols, _, rfl, rfl, rfl, rfl, rfl, rfl, rfl⟩, ?_⟩
  rintro m xs l h2 ⟨d, r, k, rfl, rfl, rfl, rfl, hd, rfl, hall⟩
  have hdl : cols.length = d.length + r.length := by rw [hd, List.length_append]
  have hal := all_split hd hall
  refine ⟨fun c6 => ?_, fun c6 => ?_⟩
  · replace c6 : (d.length : Int) < ((cols.map fun c => V.agg c.v).length : Int) := of_decide_eq_true c6
    cases r with
    | nil => exact absurd hdl (by simp only [List.length_nil]; omega)
    | cons c r =>
    simp only [List.length_cons] at hdl
    have g1 : (cols.map fun c => V.agg c.v)[((d.length : Nat) : Int).toNat]? = some (.agg c.v) := by rw [Int.toNat_natCast, hd]; exact map_get _ d c r
    refine ⟨.agg c.v, ⟨by show (0:Int) ≤ (d.length : Int); omega, g1⟩, ?_⟩
    refine ⟨Nat.zero_le _, ?_⟩
    refine ⟨.agg c.v, fun hg => ⟨by show (0:Int) ≤ (d.length : Int); omega, g1⟩, ?_⟩
    refine ⟨Nat.le_of_ble_eq_true rfl, ?_⟩
    refine ⟨Nat.zero_le _, ?_⟩
    have conv : ∀ {x : Bool}, (bif decide ((300:Int) < (c.name.size : Int)) then true else decide ((300:Int) < (c.cell.val.size : Int))) = x → p c = !x := by
      intro x hx
      rw [← hx, hp, dec_lt c.name.size 300 300 rfl, dec_lt c.cell.val.size 300 300 rfl]
      show (decide (c.name.size ≤ 300) && decide (c.cell.val.size ≤ 300)) = _
      cases decide (c.name.size ≤ 300) <;> cases decide (c.cell.val.size ≤ 300) <;> rfl
    refine ⟨fun c8 => ?_, fun c8 => ?_⟩
    · have c9 : p c = false := conv c8
      rw [hal, List.all_cons, c9]
      exact ⟨rfl, rfl⟩
    · have c9 : p c = true := conv c8
      refine ⟨by show inI64 ((d.length : Int) + 1); unfold inI64; omega, ?_⟩
      exact ⟨r.length, by show r.length < r.length + 1; omega, d ++ [c], r, _, rfl, rfl, rfl, rfl, by rw [hd]; simp, by simp, by rw [List.all_append, hall, List.all_cons, c9]; rfl⟩
  · replace c6 : ¬ (d.length : Int) < ((cols.map fun c => V.agg c.v).length : Int) := of_decide_eq_false c6
    cases r with
    | cons c r => exact absurd hdl (by simp only [List.length_cons]; omega)
    | nil =>
    rw [hal]
    exact ⟨rfl, rfl⟩

theorem c_fewPart (p : Part) (most : Int) (hmost : most ≤ 2 ^ 60) (h : H) : ACalls Tryz.prog W0 36 [.v (.agg p.v), .v (V.i most)] h fun x h' => x = .v (V.b (fewPart p most)) ∧ h' = h := by
  obtain ⟨key, gone, rows⟩ := p
  have h1 : (rows.map fun c => V.agg c.v).length = rows.length := List.length_map ..
  have hsp : fewPart ⟨key, gone, rows⟩ most = ((decide (key.size ≤ 300) && decide ((rows.length : Int) ≤ most)) && rows.all fewRow) := rfl
  rw [hsp]
  refine ACalls.of (C := CO [] fun _ => ([], [], 0)) (cOkO _ _) hP (fn := Tryz.f36) (by kernel_rfl) (by kernel_rfl) ?_
  have conv : ∀ x : Bool, x = (bif decide ((300:Int) < (key.size : Int)) then true else decide (most < ((rows.map fun c => V.agg c.v).length : Int))) →
      x = !(decide (key.size ≤ 300) && decide ((rows.length : Int) ≤ most)) := by
    rintro x rfl
    have e : decide (most < (rows.length : Int)) = !decide ((rows.length : Int) ≤ most) := by
      by_cases hh : (rows.length : Int) ≤ most
      · rw [decide_eq_true hh, decide_eq_false (by omega)]; rfl
      · rw [decide_eq_false hh, decide_eq_true (by omega)]; rfl
    rw [h1, dec_lt key.size 300 300 rfl, e]
    cases decide (key.size ≤ 300) <;> cases decide ((rows.length : Int) ≤ most) <;> rfl
  refine ⟨fun c4 => ?_, fun c4 => ?_⟩
  · replace c4 := not_t ((conv _ rfl).symm.trans c4)
    rw [c4]
    exact ⟨rfl, rfl⟩
  replace c4 := not_f ((conv _ rfl).symm.trans c4)
  have hl1 : (rows.length : Int) ≤ most := by
    have := c4
    simp only [Bool.and_eq_true, decide_eq_true_eq] at this
    exact this.2
  rw [c4]
  refine ⟨0, [2, 5], 1, fun m xs l h2 => ∃ (d r : List Row) (k : Int), xs = [.lp 0 0, .v (V.i k)] ∧ l = [.cells [.v (V.s key), .v (V.i gone), .v (.sl 8 (rows.map fun c => .agg c.v))]] ∧ h2 = h ∧ m = r.length ∧ rows = d ++ r ∧ k = d.length ∧ d.all fewRow = true,
    ⟨rows.length, [], rows, _, rfl, rfl, rfl, rfl, rfl, rfl, rfl⟩, ?_⟩
  rintro m xs l h2 ⟨d, r, k, rfl, rfl, rfl, rfl, hd, rfl, hall⟩
  have hdl : rows.length = d.length + r.length := by rw [hd, List.length_append]
  have hal := all_split hd hall
  refine ⟨fun c6 => ?_, fun c6 => ?_⟩
  · replace c6 : (d.length : Int) < ((rows.map fun c => V.agg c.v).length : Int) := of_decide_eq_true c6
    cases r with
    | nil => exact absurd hdl (by simp only [List.length_nil]; omega)
    | cons c r =>
    simp only [List.length_cons] at hdl
    have g1 : (rows.map fun c => V.agg c.v)[((d.length : Nat) : Int).toNat]? = some (.agg c.v) := by rw [Int.toNat_natCast, hd]; exact map_get _ d c r
    refine ⟨.agg c.v, ⟨by show (0:Int) ≤ (d.length : Int); omega, g1⟩, ?_⟩
    refine (c_fewRow W0 c _).mono ?_
    rintro _ _ ⟨rfl, rfl⟩
    refine ⟨fun c8 => ?_, fun c8 => ?_⟩
    · have c9 : fewRow c = false := not_t c8
      rw [hal, List.all_cons, c9]
      exact ⟨rfl, rfl⟩
    · have c9 : fewRow c = true := not_f c8
      refine ⟨by show inI64 ((d.length : Int) + 1); unfold inI64; omega, ?_⟩
      exact ⟨r.length, by show r.length < r.length + 1; omega, d ++ [c], r, _, rfl, rfl, rfl, rfl, by rw [hd]; simp, by simp, by rw [List.all_append, hall, List.all_cons, c9]; rfl⟩
  · replace c6 : ¬ (d.length : Int) < ((rows.map fun c => V.agg c.v).length : Int) := of_decide_eq_false c6
    cases r with
    | cons c r => exact absurd hdl (by simp only [List.length_cons]; omega)
    | nil =>
    rw [hal]
    exact ⟨rfl, rfl⟩

theorem c_fewMuts (l : List Mut) (most rows : Int) (hmost : most ≤ 2 ^ 60) (hrows : rows ≤ 2 ^ 60) (h : H) : ACalls Tryz.prog W0 13 [.v (.sl 4 (l.map fun m => .agg m.v)), .v (V.i most), .v (V.i rows)] h fun x h' => x = .v (V.b (fewMuts l most rows)) ∧ h' = h := by
  have h1 : (l.map fun c => V.agg c.v).length = l.length := List.length_map ..
  obtain ⟨p, hp⟩ : ∃ p : Mut → Bool, p = fun m => decide (m.table.size ≤ 300) && fewPart m.part rows := ⟨_, rfl⟩
  have hsp : fewMuts l most rows = (decide ((l.length : Int) ≤ most) && l.all p) := by rw [hp]; rfl
  rw [hsp]
  refine ACalls.of (C := CO [] fun _ => ([], [], 0)) (cOkO _ _) hP (fn := Tryz.f13) (by kernel_rfl) (by kernel_rfl) ?_
  refine ⟨0, [0, 1, 2, 7], 0, fun m xs lo h2 => lo = [] ∧ ∃ (d r : List Mut) (k : Int), xs = [.v (.sl 4 (l.map fun m => .agg m.v)), .v (V.i most), .v (V.i rows), .v (V.i k)] ∧ h2 = h ∧ m = r.length ∧ l = d ++ r ∧ k = d.length ∧ d.all p = true,
    ⟨l.length, rfl, [], l, _, rfl, rfl, rfl, rfl, rfl, rfl⟩, ?_⟩
  rintro m xs lo h2 ⟨rfl, d, r, k, rfl, rfl, rfl, hd, rfl, hall⟩
  have hdl : l.length = d.length + r.length := by rw [hd, List.length_append]
  have hal := all_split hd hall
  have conv : ∀ {x : Bool}, (bif decide ((d.length : Int) < ((l.map fun c => V.agg c.v).length : Int)) then decide ((d.length : Int) < most) else false) = x → (x = true ↔ (d.length < l.length ∧ (d.length : Int) < most)) := by
    intro x hx
    rw [← hx, h1]
    simp only [Bool.cond_false_right, Bool.and_eq_true, decide_eq_true_eq]
    omega
  refine ⟨fun c6 => ?_, fun c6 => ?_⟩
  · obtain ⟨c6, c7⟩ := (conv c6).1 rfl
    cases r with
    | nil => exact absurd hdl (by simp only [List.length_nil]; omega)
    | cons c r =>
    simp only [List.length_cons] at hdl
    have g1 : (l.map fun c => V.agg c.v)[((d.length : Nat) : Int).toNat]? = some (.agg c.v) := by rw [Int.toNat_natCast, hd]; exact map_get _ d c r
    refine ⟨.agg c.v, ⟨by show (0:Int) ≤ (d.length : Int); omega, g1⟩, ?_⟩
    refine ⟨Nat.zero_le _, ?_⟩
    refine ⟨.agg c.v, fun hg => ⟨by show (0:Int) ≤ (d.length : Int); omega, g1⟩, ?_⟩
    refine ⟨Nat.le_of_ble_eq_true rfl, ?_⟩
    refine ⟨rfl, V.b (fewPart c.part rows), fun hg => c_fewPart W0 c.part rows hrows _, ?_⟩
    have conv : ∀ {x : Bool}, (bif decide ((300:Int) < (c.table.size : Int)) then true else !fewPart c.part rows) = x → p c = !x := by
      intro x hx
      rw [← hx, hp, dec_lt c.table.size 300 300 rfl]
      show (decide (c.table.size ≤ 300) && fewPart c.part rows) = _
      cases decide (c.table.size ≤ 300) <;> cases fewPart c.part rows <;> rfl
    refine ⟨fun c8 => ?_, fun c8 => ?_⟩
    · have c9 : p c = false := conv c8
      rw [hal, List.all_cons, c9]
      exact ⟨congrArg (fun x => A.v (V.b x)) (by simp), rfl⟩
    · have c9 : p c = true := conv c8
      refine ⟨by show inI64 ((d.length : Int) + 1); unfold inI64; omega, ?_⟩
      exact ⟨r.length, by show r.length < r.length + 1; omega, rfl, d ++ [c], r, _, rfl, rfl, rfl, by rw [hd]; simp, by simp, by rw [List.all_append, hall, List.all_cons, c9]; rfl⟩
  · replace c6 : ¬ (d.length < l.length ∧ (d.length : Int) < most) := fun hh => Bool.false_ne_true ((conv c6).2 hh)
    refine ⟨congrArg (fun x => A.v (V.b x)) ?_, rfl⟩
    show decide (((l.map fun c => V.agg c.v).length : Int) ≤ most) = (decide ((l.length : Int) ≤ most) && l.all p)
    rw [h1]
    by_cases hm : (l.length : Int) ≤ most
    · have : r = [] := by
        cases r with
        | nil => rfl
        | cons c r => exact absurd ⟨by simp only [List.length_cons] at hdl; omega, by simp only [List.length_cons] at hdl; omega⟩ c6
      rw [hal, this]; simp
    · simp [hm]

theorem c_few (m : Msg) (h : H) : ACalls Tryz.prog W0 4 [.v (.agg m.v)] h fun x h' => x = .v (V.b (fewMsg m)) ∧ h' = h := by
  obtain ⟨kind, frm, to, id, muts, keys, num⟩ := m
  have e1 : (keys.map V.s).length = keys.length := List.length_map ..
  obtain ⟨p, hp⟩ : ∃ p : Str → Bool, p = fun s => decide (s.size ≤ 300) := ⟨_, rfl⟩
  have hsp : fewMsg ⟨kind, frm, to, id, muts, keys, num⟩ = ((decide (keys.length ≤ 50) && keys.all p) && fewMuts muts 20 10) := by rw [hp]; rfl
  rw [hsp]
  refine ACalls.of (C := CO [] fun _ => ([], [], 0)) (cOkO _ _) hP (fn := Tryz.f4) (by kernel_rfl) (by kernel_rfl) ?_
  refine ⟨0, [1, 3], 1, fun m xs l h2 => ∃ (d r : List Str) (k : Int), xs = [.lp 0 0, .v (V.i k)] ∧ l = [.cells [.v (V.i kind), .v (V.i frm), .v (V.i to), .v (V.i id), .v (.sl 4 (muts.map fun x => .agg x.v)), .v (.sl 1 (keys.map V.s)), .v (V.i num)]] ∧ h2 = h ∧ m = r.length ∧ keys = d ++ r ∧ k = d.length ∧ d.all p = true,
    ⟨keys.length, [], keys, _, rfl, rfl, rfl, rfl, rfl, rfl, rfl⟩, ?_⟩
  rintro m xs lo h2 ⟨d, r, k, rfl, rfl, rfl, rfl, hd, rfl, hall⟩
  have hdl : keys.length = d.length + r.length := by rw [hd, List.length_append]
  have hal := all_split hd hall
  have conv : ∀ {x : Bool}, (bif decide ((d.length : Int) < ((keys.map V.s).length : Int)) then decide ((d.length : Int) < 50) else false) = x → (x = true ↔ (d.length < keys.length ∧ d.length < 50)) := by
    intro x hx
    rw [← hx, e1]
    simp only [Bool.cond_false_right, Bool.and_eq_true, decide_eq_true_eq]
    omega
  refine ⟨fun c6 => ?_, fun c6 => ?_⟩
  · obtain ⟨c6, c7⟩ := (conv c6).1 rfl
    cases r with
    | nil => exact absurd hdl (by simp only [List.length_nil]; omega)
    | cons c r =>
    simp only [List.length_cons] at hdl
    have g1 : (keys.map V.s)[((d.length : Nat) : Int).toNat]? = some (V.s c) := by rw [Int.toNat_natCast, hd]; exact map_get _ d c r
    refine ⟨V.s c, ⟨by show (0:Int) ≤ (d.length : Int); omega, g1⟩, ?_⟩
    have conv : ∀ {x : Bool}, decide ((300:Int) < (c.size : Int)) = x → p c = !x := by
      intro x hx
      rw [← hx, hp, dec_lt c.size 300 300 rfl, Bool.not_not]
    refine ⟨fun c8 => ?_, fun c8 => ?_⟩
    · have c9 : p c = false := conv c8
      rw [hal, List.all_cons, c9]
      exact ⟨congrArg (fun x => A.v (V.b x)) (by simp), rfl⟩
    · have c9 : p c = true := conv c8
      refine ⟨by show inI64 ((d.length : Int) + 1); unfold inI64; omega, ?_⟩
      exact ⟨r.length, by show r.length < r.length + 1; omega, d ++ [c], r, _, rfl, rfl, rfl, rfl, by rw [hd]; simp, by simp, by rw [List.all_append, hall, List.all_cons, c9]; rfl⟩
  · replace c6 : ¬ (d.length < keys.length ∧ d.length < 50) := fun hh => Bool.false_ne_true ((conv c6).2 hh)
    refine ⟨rfl, V.b (fewMuts muts 20 10), fun hg => c_fewMuts W0 muts 20 10 (by decide) (by decide) _, ?_⟩
    refine ⟨congrArg (fun x => A.v (V.b x)) ?_, rfl⟩
    show (bif decide (((keys.map V.s).length : Int) ≤ 50) then fewMuts muts 20 10 else false) = ((decide (keys.length ≤ 50) && keys.all p) && fewMuts muts 20 10)
    rw [e1]
    by_cases hm : keys.length ≤ 50
    · have : r = [] := by
        cases r with
        | nil => rfl
        | cons c r => exact absurd ⟨by simp only [List.length_cons] at hdl; omega, by simp only [List.length_cons] at hdl; omega⟩ c6
      have e2 : decide ((keys.length : Int) ≤ 50) = true := decide_eq_true (by omega)
      rw [hal, this, e2]; simp [hm]
    · have e2 : decide ((keys.length : Int) ≤ 50) = false := decide_eq_false (by omega)
      rw [e2]; simp [hm]

theorem few_sized {m : Msg} (h : fewMsg m = true) : m.sized ∧ m.muts.length ≤ 20 ∧ m.keys.length ≤ 50 := by
  simp only [fewMsg, fewMuts, Bool.and_eq_true, decide_eq_true_eq, List.all_eq_true] at h
  obtain ⟨⟨h1, h2⟩, h3, h4⟩ := h
  refine ⟨fun x hx => ?_, by omega, h1⟩
  obtain ⟨a1, a2⟩ := h4 x hx
  simp only [fewPart, Bool.and_eq_true, decide_eq_true_eq, List.all_eq_true] at a2
  obtain ⟨⟨b1, b2⟩, b3⟩ := a2
  refine ⟨by omega, by omega, fun r hr => ?_⟩
  have := b3 r hr
  simp only [fewRow, Bool.and_eq_true, decide_eq_true_eq, List.all_eq_true] at this
  obtain ⟨⟨⟨d1, d2⟩, d3⟩, d4⟩ := this
  exact ⟨by omega, fun c hc => by have := (d4 c hc).1; omega⟩
end Go.AI
