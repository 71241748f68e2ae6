import Derived.Test.YtiaemhkkfjpdlaaEngL
/- Functions of the program, as plain functions: each as the engine reads it. -/
set_option linter.unusedVariables false
set_option maxRecDepth 100000
namespace Go.Eng
open Go
noncomputable def ref05_New (w0 : Int) (w1 : Int) : Option (Fs) :=
    some (⟨w0, w1, (2 : Int), [(⟨(1 : Int), (2 : Int), 0, [], (1 : Int), ([] : List Entry)⟩ : Inode)]⟩ : Fs)

noncomputable def ref05_Drop_L3 {R : Type} (x1 : Int) (x3 : Fs) (k0 : (List Inode) → Option R) : Nat → Int → (List Inode) → Option R
  | 0, _, _ => none
  | n + 1, x2, x5 => 
    bcase (decide (x2 < (List.length x3.inodes : Int))) (
    bcase (decide (0 ≤ x2)) (ocase x3.inodes[Int.toNat x2]? fun e6 => 
    bcase (e6.ino != x1) (
    bcase (decide (0 ≤ x2)) (ocase x3.inodes[Int.toNat x2]? fun e7 => lcase (x5.length + [e7].length) ((ref05_Drop_L3 x1 x3 k0 n (IntKind.i64.wrap (x2 + (1 : Int))) (x5 ++ [e7])))) (none)) ((ref05_Drop_L3 x1 x3 k0 n (IntKind.i64.wrap (x2 + (1 : Int))) x5))) (none)) ((k0 x5))
noncomputable def ref05_Drop (w0 : Fs) (w1 : Int) : Option (Fs) :=
    ref05_Drop_L3 w1 w0 (fun z11 => some (⟨w0.maxInodes, w0.maxBytes, w0.next, z11⟩ : Fs)) FUEL (0 : Int) ([] : List Inode)

noncomputable def ref05_Set_L5 {R : Type} (x2 : List Inode) (x6 : Inode) (k0 : Bool → (List Inode) → Option R) : Nat → Bool → Int → (List Inode) → Option R
  | 0, _, _, _ => none
  | n + 1, x3, x4, x8 => 
    bcase (decide (x4 < (List.length x2 : Int))) (
    bcase (!x3) (
    bcase (decide (0 ≤ x4)) (ocase x2[Int.toNat x4]? fun e9 => 
    bcase (decide (e9.ino > x6.ino)) (lcase (x8.length + [x6].length) (
    bcase (decide (0 ≤ x4)) (ocase x2[Int.toNat x4]? fun e10 => lcase ((x8 ++ [x6]).length + [e10].length) ((ref05_Set_L5 x2 x6 k0 n true (IntKind.i64.wrap (x4 + (1 : Int))) ((x8 ++ [x6]) ++ [e10])))) (none))) (
    bcase (decide (0 ≤ x4)) (ocase x2[Int.toNat x4]? fun e11 => lcase (x8.length + [e11].length) ((ref05_Set_L5 x2 x6 k0 n x3 (IntKind.i64.wrap (x4 + (1 : Int))) (x8 ++ [e11])))) (none))) (none)) (
    bcase (decide (0 ≤ x4)) (ocase x2[Int.toNat x4]? fun e12 => lcase (x8.length + [e12].length) ((ref05_Set_L5 x2 x6 k0 n x3 (IntKind.i64.wrap (x4 + (1 : Int))) (x8 ++ [e12])))) (none))) ((k0 x3 x8))
noncomputable def ref05_Set (w0 : Fs) (w1 : Inode) : Option (Fs) :=
    ocase (ref05_Drop w0 w1.ino) fun y1 => ref05_Set_L5 y1.inodes w1 (fun z18 z19 => 
    bcase (!z18) (lcase (z19.length + [w1].length) (some (⟨w0.maxInodes, w0.maxBytes, w0.next, (z19 ++ [w1])⟩ : Fs))) (some (⟨w0.maxInodes, w0.maxBytes, w0.next, z19⟩ : Fs))) FUEL false (0 : Int) ([] : List Inode)

noncomputable def ref05_Get_L2 {R : Type} (x1 : Int) (x3 : Fs) (kr : Inode → Option R) (k0 : Option R) : Nat → Int → Option R
  | 0, _ => none
  | n + 1, x2 => 
    bcase (decide (x2 < (List.length x3.inodes : Int))) (
    bcase (decide (0 ≤ x2)) (ocase x3.inodes[Int.toNat x2]? fun e5 => 
    bcase (e5.ino == x1) (
    bcase (decide (0 ≤ x2)) (ocase x3.inodes[Int.toNat x2]? fun e6 => (kr e6)) (none)) ((ref05_Get_L2 x1 x3 kr k0 n (IntKind.i64.wrap (x2 + (1 : Int)))))) (none)) ((k0))
noncomputable def ref05_Get (w0 : Fs) (w1 : Int) : Option (Inode × Bool) :=
    ref05_Get_L2 w1 w0 (fun z10 => some (z10, true)) (some ((⟨0, 0, 0, [], 0, ([] : List Entry)⟩ : Inode), false)) FUEL (0 : Int)

noncomputable def ref05_Few_L8 {R : Type} (x7 : Inode) (kr : Option R) (k2 : Option R) : Nat → Int → Option R
  | 0, _ => none
  | n + 1, x5 => 
    bcase (decide (x5 < (List.length x7.entries : Int))) (
    bcase (decide (0 ≤ x5)) (ocase x7.entries[Int.toNat x5]? fun e8 => 
    bcase (decide ((List.length e8.name : Int) > (300 : Int))) ((kr)) ((ref05_Few_L8 x7 kr k2 n (IntKind.i64.wrap (x5 + (1 : Int)))))) (none)) ((k2))
noncomputable def ref05_Few_L2 {R : Type} (x2 : Fs) (kr : Option R) (k0 : Option R) : Nat → Int → Option R
  | 0, _ => none
  | n + 1, x1 => 
    bcase (decide (x1 < (List.length x2.inodes : Int))) (
    bcase (decide (x1 < (100 : Int))) (
    bcase (decide (0 ≤ x1)) (ocase x2.inodes[Int.toNat x1]? fun e3 => 
    bcase (decide ((List.length e3.data : Int) > (5000 : Int))) ((kr)) (
    bcase (decide ((List.length e3.entries : Int) > (40 : Int))) ((kr)) (ref05_Few_L8 e3 ((kr)) ((ref05_Few_L2 x2 kr k0 n (IntKind.i64.wrap (x1 + (1 : Int))))) FUEL (0 : Int)))) (none)) ((k0))) ((k0))
noncomputable def ref05_Few (w0 : Fs) : Option (Bool) :=
    ref05_Few_L2 w0 (some false) (some (decide ((List.length w0.inodes : Int) ≤ (40 : Int)))) FUEL (0 : Int)

noncomputable def ref06_Bytes_L3 {R : Type} (x3 : Fs) (k0 : Int → Option R) : Nat → Int → Int → Option R
  | 0, _, _ => none
  | n + 1, x1, x2 => 
    bcase (decide (x2 < (List.length x3.inodes : Int))) (
    bcase (decide (0 ≤ x2)) (ocase x3.inodes[Int.toNat x2]? fun e4 => 
    bcase (e4.kind == (1 : Int)) (
    bcase (decide (0 ≤ x2)) (ocase x3.inodes[Int.toNat x2]? fun e5 => (ref06_Bytes_L3 x3 k0 n (IntKind.i64.wrap (x1 + (List.length e5.data : Int))) (IntKind.i64.wrap (x2 + (1 : Int))))) (none)) ((ref06_Bytes_L3 x3 k0 n x1 (IntKind.i64.wrap (x2 + (1 : Int)))))) (none)) ((k0 x1))
noncomputable def ref06_Bytes (w0 : Fs) : Option (Int) :=
    ref06_Bytes_L3 w0 (fun z7 => some z7) FUEL (0 : Int) (0 : Int)

noncomputable def ref06_Fits (w0 : Fs) (w1 : Int) (w2 : Int) : Option (Bool) :=
    
    bcase (decide ((IntKind.i64.wrap ((List.length w0.inodes : Int) + w1)) > w0.maxInodes)) (some false) (ocase (ref06_Bytes w0) fun y1 => some (decide ((IntKind.i64.wrap (y1 + w2)) ≤ w0.maxBytes)))

noncomputable def room_Inodes (w0 : Fs) : Option (Int) :=
    some (List.length w0.inodes : Int)

noncomputable def room_Bytes_L3 {R : Type} (x2 : Int) (x4 : Fs) (k0 : Int → Option R) : Nat → Int → Int → Option R
  | 0, _, _ => none
  | n + 1, x1, x3 => 
    bcase (decide (x3 < x2)) (
    bcase (decide (0 ≤ x3)) (ocase x4.inodes[Int.toNat x3]? fun e5 => 
    bcase (e5.kind == (1 : Int)) (
    bcase (decide (0 ≤ x3)) (ocase x4.inodes[Int.toNat x3]? fun e6 => (room_Bytes_L3 x2 x4 k0 n (IntKind.i64.wrap (x1 + (List.length e6.data : Int))) (IntKind.i64.wrap (x3 + (1 : Int))))) (none)) ((room_Bytes_L3 x2 x4 k0 n x1 (IntKind.i64.wrap (x3 + (1 : Int)))))) (none)) ((k0 x1))
noncomputable def room_Bytes (w0 : Fs) : Option (Int) :=
    room_Bytes_L3 (List.length w0.inodes : Int) w0 (fun z8 => some z8) FUEL (0 : Int) (0 : Int)

noncomputable def room_Fits (w0 : Fs) (w1 : Int) (w2 : Int) : Option (Bool) :=
    ocase (room_Inodes w0) fun y1 => 
    bcase (decide ((IntKind.i64.wrap (y1 + w1)) ≤ w0.maxInodes)) (ocase (room_Bytes w0) fun y2 => some (decide ((IntKind.i64.wrap (y2 + w2)) ≤ w0.maxBytes))) (some false)

noncomputable def law06_within (w0 : Int) : Option (Bool) :=
    bcase (decide (w0 ≥ (-1099511627776 : Int))) (some (decide (w0 ≤ (1099511627776 : Int)))) (some false)

noncomputable def law06_awake : Option (Bool) :=
    ocase (ref05_New (2 : Int) (3 : Int)) fun y1 => ocase (ref05_Set y1 (⟨(2 : Int), (1 : Int), 0, ([97, 98] : Str), 0, ([] : List Entry)⟩ : Inode)) fun y2 => ocase (room_Inodes y1) fun y3 => 
    bcase (y3 == (1 : Int)) (ocase (room_Bytes y1) fun y4 => 
    bcase (y4 == (0 : Int)) (ocase (room_Fits y1 (1 : Int) (3 : Int)) fun y5 => 
    bcase y5 (ocase (room_Fits y1 (2 : Int) (0 : Int)) fun y6 => 
    bcase (!y6) (ocase (room_Fits y1 (0 : Int) (4 : Int)) fun y7 => 
    bcase (!y7) (ocase (room_Bytes y2) fun y8 => 
    bcase (y8 == (2 : Int)) (ocase (room_Inodes y2) fun y9 => some (y9 == (2 : Int))) (some false)) (some false)) (some false)) (some false)) (some false)) (some false)

noncomputable def law06_RoomCounts (w0 : Fs) (w1 : Int) (w2 : Int) : Option (Bool) :=
    ocase (law06_awake) fun y1 => 
    bcase (!y1) (ocase (law06_awake) fun y2 => some y2) (ocase (ref05_Few w0) fun y3 => 
    bcase (!y3) (ocase (law06_awake) fun y4 => some y4) (ocase (law06_within w1) fun y5 => 
    bcase (!y5) (ocase (law06_awake) fun y6 => some y6) (ocase (law06_within w2) fun y7 => 
    bcase (!y7) (ocase (law06_awake) fun y8 => some y8) (ocase (room_Inodes w0) fun y9 => 
    bcase (y9 == (List.length w0.inodes : Int)) (ocase (room_Bytes w0) fun y10 => ocase (ref06_Bytes w0) fun y11 => 
    bcase (y10 == y11) (ocase (room_Fits w0 w1 w2) fun y12 => ocase (ref06_Fits w0 w1 w2) fun y13 => some (y12 == y13)) (some false)) (some false)))))

noncomputable def law06_RoomMore (w0 : Fs) (w1 : Inode) (w2 : Int) (w3 : Int) : Option (Bool) :=
    ocase (law06_awake) fun y1 => 
    bcase (!y1) (ocase (law06_awake) fun y2 => some y2) (ocase (ref05_Few w0) fun y3 => 
    bcase (!y3) (ocase (law06_awake) fun y4 => some y4) (
    bcase (decide ((List.length w1.data : Int) > (1000 : Int))) (ocase (law06_awake) fun y5 => some y5) (ocase (ref05_Get w0 w1.ino) fun y6 => 
    bcase y6.2 (some true) (ocase (ref05_Set w0 (⟨w1.ino, (1 : Int), w1.links, w1.data, w1.parent, w1.entries⟩ : Inode)) fun y7 => ocase (room_Inodes y7) fun y8 => ocase (room_Inodes w0) fun y9 => 
    bcase (y8 != (IntKind.i64.wrap (y9 + (1 : Int)))) (some false) (ocase (room_Bytes y7) fun y10 => ocase (room_Bytes w0) fun y11 => 
    bcase (y10 != (IntKind.i64.wrap (y11 + (List.length w1.data : Int)))) (some false) (ocase (room_Fits y7 (IntKind.i64.wrap (w2)) (IntKind.i64.wrap (w3))) fun y12 => ocase (room_Fits w0 (IntKind.i64.wrap ((IntKind.i64.wrap (w2)) + (1 : Int))) (IntKind.i64.wrap ((IntKind.i64.wrap (w3)) + (List.length w1.data : Int)))) fun y13 => 
    bcase (y12 == y13) (ocase (room_Fits w0 (IntKind.i64.wrap ((IntKind.i64.wrap (w2)) + (1 : Int))) (IntKind.i64.wrap (w3))) fun y14 => 
    bcase (!y14) (some true) (ocase (room_Fits w0 (IntKind.i64.wrap (w2)) (IntKind.i64.wrap (w3))) fun y15 => some y15)) (some false)))))))

noncomputable def law06_RoomFiles_L7 {R : Type} (x5 : Int) (k0 : Int → (List Inode) → Option R) : Nat → Int → Int → (List Inode) → Option R
  | 0, _, _, _ => none
  | n + 1, x6, x7, x11 => 
    bcase (decide (x7 < (List.length x11 : Int))) (
    bcase (decide (0 ≤ x7 ∧ x7 < (x11.length : Int))) (ocase x11[(Int.toNat x7)]? fun e12 => 
    bcase (e12.kind != (1 : Int)) (
    bcase (decide (0 ≤ x7 ∧ x7 < (x11.length : Int))) (ocase x11[(Int.toNat x7)]? fun e13 => lcase (e13.data.length + ([109, 111, 114, 101] : Str).length) (
    bcase (decide (0 ≤ x7 ∧ x7 < (x11.length : Int))) (ocase x11[(Int.toNat x7)]? fun e14 => 
    bcase ((2 : Int) == 0) (none) (
    bcase ((Int.tmod x5 (2 : Int)) == (1 : Int)) (
    bcase (decide (0 ≤ x7 ∧ x7 < ((x11.set (Int.toNat x7) (⟨e14.ino, e14.kind, e14.links, (e13.data ++ ([109, 111, 114, 101] : Str)), e14.parent, e14.entries⟩ : Inode)).length : Int))) (ocase (x11.set (Int.toNat x7) (⟨e14.ino, e14.kind, e14.links, (e13.data ++ ([109, 111, 114, 101] : Str)), e14.parent, e14.entries⟩ : Inode))[(Int.toNat x7)]? fun e15 => (law06_RoomFiles_L7 x5 k0 n (0 : Int) (IntKind.i64.wrap (x7 + (1 : Int))) ((x11.set (Int.toNat x7) (⟨e14.ino, e14.kind, e14.links, (e13.data ++ ([109, 111, 114, 101] : Str)), e14.parent, e14.entries⟩ : Inode)).set (Int.toNat x7) (⟨e15.ino, (2 : Int), e15.links, e15.data, e15.parent, e15.entries⟩ : Inode)))) (none)) ((law06_RoomFiles_L7 x5 k0 n x6 (IntKind.i64.wrap (x7 + (1 : Int))) (x11.set (Int.toNat x7) (⟨e14.ino, e14.kind, e14.links, (e13.data ++ ([109, 111, 114, 101] : Str)), e14.parent, e14.entries⟩ : Inode)))))) (none))) (none)) (
    bcase (decide (0 ≤ x7 ∧ x7 < (x11.length : Int))) (ocase x11[(Int.toNat x7)]? fun e16 => 
    bcase ((2 : Int) == 0) (none) (
    bcase ((Int.tmod x5 (2 : Int)) == (1 : Int)) (
    bcase (decide (0 ≤ x7 ∧ x7 < (x11.length : Int))) (ocase x11[(Int.toNat x7)]? fun e17 => (law06_RoomFiles_L7 x5 k0 n (0 : Int) (IntKind.i64.wrap (x7 + (1 : Int))) (x11.set (Int.toNat x7) (⟨e17.ino, (2 : Int), e17.links, e17.data, e17.parent, e17.entries⟩ : Inode)))) (none)) ((law06_RoomFiles_L7 x5 k0 n (IntKind.i64.wrap (x6 + (List.length e16.data : Int))) (IntKind.i64.wrap (x7 + (1 : Int))) x11)))) (none))) (none)) ((k0 x6 x11))
noncomputable def law06_RoomFiles (w0 : Fs) (w1 : Int) : Option (Bool) :=
    ocase (law06_awake) fun y1 => 
    bcase (!y1) (ocase (law06_awake) fun y2 => some y2) (ocase (ref05_Few w0) fun y3 => 
    bcase (!y3) (ocase (law06_awake) fun y4 => some y4) (lcase (([] : List Inode).length + w0.inodes.length) (law06_RoomFiles_L7 w1 (fun z23 z24 => ocase (room_Bytes (⟨w0.maxInodes, w0.maxBytes, w0.next, z24⟩ : Fs)) fun y25 => some (y25 == z23)) FUEL (0 : Int) (0 : Int) (([] : List Inode) ++ w0.inodes))))
end Go.Eng
