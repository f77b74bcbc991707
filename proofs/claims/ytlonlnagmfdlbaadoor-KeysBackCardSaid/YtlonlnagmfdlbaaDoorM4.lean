/- Parts of the proof of CKeysBack: SyP, Tab, F1, F2, F3, Ka, SyQ, SyT, SyW, SyY, SyZ, K1. No conditions. -/
import Derived.Test.YtlonlnagmfdlbaaDoorM3
import Derived.Test.YtlonlnagmfdlbaaDoorProg
import Derived.KernelRfl
import Derived.Laws.MakeOwn
import Derived.Laws.IdiomStrings
import Derived.Lib.BufferRead
/- More rules: values in other words; regions whose stores may come among their reads. No program in sight. -/
namespace Go.Sy
section
variable {cf:Cf} {Q:Exit->Act->World->Prop} {σ:Snap} {env:Env} {hp:HP} {A:List AE} {nh:Nat} {it:Item} {rest:List Item}
theorem StA.set {β:Nat->Addr} {a:Act} (t:Nat) {x y:SV} (h:env.get t=some x) (hxy:x.den β=y.den β) (ha:StA cf env β a):StA cf ((t,y)::env) β a:=by
  refine ⟨ha.size,ha.defers,fun i z hz=>?_⟩
  rw [Env.get_cons] at hz
  by_cases hi:t=i
  · rw [if_pos hi] at hz
    injection hz with hz
    subst hz;subst hi
    rw [<-hxy];exact ha.env t _ h
  · rw [if_neg hi] at hz;exact ha.env i z hz
theorem nj_set {e:Exit} (t:Nat) {x:SV} (y:SV) (h:env.get t=some x) (hy:y.lt nh) (hxy:∀ β,x.den β=y.den β) (k:NJ cf e Q σ ((t,y)::env) hp A nh):NJ cf e Q σ env hp A nh :=
  ⟨fun hb a β w ha hw=>k.run (hb.put hy t) a β w (ha.set t h (hxy β)) hw⟩
variable {W:(Nat->Addr)->World->Prop}
def noQuiet:List Item->Bool
  | []=>true
  | it::l=>(match it.tag with | .quiet=>false | _=>true)&&noQuiet l
theorem run_wider {P:Program} {E E':World->Prop} (hE:∀ w,E w->E' w):∀ (l:List Item) (S:World->Prop) (a:Act),noQuiet l=true->RunT P Q l E S a->RunT P Q l E' S a
  | [],_,_,_,h=>h
  | it::l,S,a,hq,h=>by
    simp only [noQuiet,Bool.and_eq_true] at hq
    simp only [RunT] at h ⊢
    split
    · rename_i hw
      rw [if_pos hw] at h
      cases htag:it.tag with
      | quiet=>rw [htag] at hq;cases hq.1
      | pure =>
        rw [htag] at h
        obtain ⟨v,h1,h2⟩:=h
        exact ⟨v,h1,run_wider hE l S _ hq.2 h2⟩
      | keep =>
        rw [htag] at h
        exact fun w hS=>wq_mono (fun a' w' ⟨E1,S1,h1,h2,h3,h4⟩=>⟨E1,S1,h1,h2,fun x hx=>hE x (h3 x hx),h4⟩) (h w hS)
      | sink=>rw [htag] at h;exact h
      | free=>rw [htag] at h;exact h
    · rename_i hw
      rw [if_neg hw] at h
      exact run_wider hE l S _ hq.2 h
end
theorem SV.lt_fn0 {n:Nat} {f:Fn}:(SV.a (.fn f [])).lt n:=fun _ h=>(by cases h)
end Go.Sy
namespace Go.Sy
open Go.Proofs
def tt:List (Nat×TI):=[
  (1,⟨1,false,[.v .nilFunc],[],.func,8⟩),
  (2,⟨1,false,[.v (.int .i64 0)],[],.int .i64,8⟩),
  (3,⟨1,false,[.v (.int .i64 0)],[],.int .i64,8⟩),
  (4,⟨1,false,[.ff],[],.bool,1⟩),
  (5,⟨1,false,[.v (.int .u8 0)],[],.int .u8,1⟩),
  (6,⟨1,false,[.v (.int .u8 0)],[],.int .u8,1⟩),
  (7,⟨4,true,[.v (.int .i64 0),.v (.int .i64 0),.ff,.v (.int .u8 0)],[(0,1,some false),(1,1,some false),(2,1,some false),(3,1,some false)],.struct,24⟩),
  (8,⟨4,true,[.v (.int .i64 0),.v (.int .i64 0),.ff,.v (.int .u8 0)],[(0,1,some false),(1,1,some false),(2,1,some false),(3,1,some false)],.struct,24⟩),
  (9,⟨1,false,[.v (.string ⟨#[]⟩)],[],.str,16⟩),
  (10,⟨1,false,[.v (.string ⟨#[]⟩)],[],.str,16⟩),
  (11,⟨1,false,[.v (.string ⟨#[]⟩)],[],.str,16⟩),
  (12,⟨1,false,[.v (.int .u64 0)],[],.int .u64,8⟩),
  (13,⟨2,true,[.v (.string ⟨#[]⟩),.v (.int .u64 0)],[(0,1,some false),(1,1,some false)],.struct,24⟩),
  (14,⟨2,true,[.v (.string ⟨#[]⟩),.v (.int .u64 0)],[(0,1,some false),(1,1,some false)],.struct,24⟩),
  (15,⟨1,false,[.v (.pointer none)],[],.ptr 126,8⟩),
  (16,⟨1,false,[.v (.pointer none)],[],.ptr 129,8⟩),
  (17,⟨1,false,[.v (.pointer none)],[],.ptr 137,8⟩),
  (18,⟨1,true,[.v (.pointer none)],[(0,1,some false)],.struct,8⟩),
  (19,⟨1,true,[.v (.pointer none)],[(0,1,some false)],.struct,8⟩),
  (20,⟨1,false,[.v .nilIface],[],.iface,16⟩),
  (21,⟨1,false,[.v (.int .i32 0)],[],.int .i32,4⟩),
  (22,⟨1,false,[.v (.slice none 0 0)],[],.slice 5,24⟩),
  (27,⟨1,false,[.v (.slice none 0 0)],[],.slice 52,24⟩),
  (29,⟨1,false,[.v (.int .i64 0)],[],.int .i64,8⟩),
  (32,⟨1,false,[.v (.slice none 0 0)],[],.slice 49,24⟩),
  (40,⟨3,true,[.ff,.v (.string ⟨#[]⟩),.v (.int .i64 0)],[(0,1,some false),(1,1,some false),(2,1,some false)],.struct,32⟩),
  (49,⟨7,true,[.v (.int .i64 0),.ff,.ff,.v (.string ⟨#[]⟩),.v (.int .i64 0),.v (.string ⟨#[]⟩),.v (.int .i64 0)],[(0,1,some false),(1,1,some false),(2,3,some true),(5,1,some false),(6,1,some false)],.struct,72⟩),
  (52,⟨7,true,[.v (.int .i64 0),.ff,.ff,.v (.string ⟨#[]⟩),.v (.int .i64 0),.v (.string ⟨#[]⟩),.v (.int .i64 0)],[(0,1,some false),(1,1,some false),(2,3,some true),(5,1,some false),(6,1,some false)],.struct,72⟩),
  (61,⟨1,false,[.v .nilFunc],[],.func,8⟩),
  (68,⟨1,false,[.v .nilFunc],[],.func,8⟩),
  (73,⟨1,false,[.v (.int .u64 0)],[],.int .u64,8⟩),
  (74,⟨1,false,[.v .nilFunc],[],.func,8⟩),
  (90,⟨256,true,List.replicate 256 .ff,[],.array 256 4,256⟩),
  (94,⟨1,false,[.v (.pointer none)],[],.ptr 90,8⟩),
  (95,⟨1,false,[.v (.pointer none)],[],.ptr 97,8⟩),
  (97,⟨2,true,[.v (.pointer none),.v (.slice none 0 0)],[(0,1,some false),(1,1,some false)],.struct,32⟩),
  (100,⟨1,false,[.v .nilIface],[],.iface,16⟩),
  (111,⟨1,false,[.v (.pointer none)],[],.ptr 5,8⟩),
  (113,⟨1,false,[.v (.pointer none)],[],.other,8⟩),
  (119,⟨2,true,[.v (.int .u8 0),.v (.int .u8 0)],[(0,1,some false),(1,1,some false)],.struct,2⟩),
  (120,⟨32,true,[.v (.int .u8 0),.v (.int .u8 0),.v (.int .u8 0),.v (.int .u8 0),.v (.int .u8 0),.v (.int .u8 0),.v (.int .u8 0),.v (.int .u8 0),.v (.int .u8 0),.v (.int .u8 0),.v (.int .u8 0),.v (.int .u8 0),.v (.int .u8 0),.v (.int .u8 0),.v (.int .u8 0),.v (.int .u8 0),.v (.int .u8 0),.v (.int .u8 0),.v (.int .u8 0),.v (.int .u8 0),.v (.int .u8 0),.v (.int .u8 0),.v (.int .u8 0),.v (.int .u8 0),.v (.int .u8 0),.v (.int .u8 0),.v (.int .u8 0),.v (.int .u8 0),.v (.int .u8 0),.v (.int .u8 0),.v (.int .u8 0),.v (.int .u8 0)],[],.array 16 119,32⟩),
  (122,⟨1,false,[.v (.int .u32 0)],[],.int .u32,4⟩)
]
theorem tt1:tiOf Tryd.prog 1=some ⟨1,false,[.v .nilFunc],[],.func,8⟩:=by kernel_rfl
theorem tt2:tiOf Tryd.prog 2=some ⟨1,false,[.v (.int .i64 0)],[],.int .i64,8⟩:=by kernel_rfl
theorem tt3:tiOf Tryd.prog 3=some ⟨1,false,[.v (.int .i64 0)],[],.int .i64,8⟩:=by kernel_rfl
theorem tt4:tiOf Tryd.prog 4=some ⟨1,false,[.ff],[],.bool,1⟩:=by kernel_rfl
theorem tt5:tiOf Tryd.prog 5=some ⟨1,false,[.v (.int .u8 0)],[],.int .u8,1⟩:=by kernel_rfl
theorem tt6:tiOf Tryd.prog 6=some ⟨1,false,[.v (.int .u8 0)],[],.int .u8,1⟩:=by kernel_rfl
theorem tt7:tiOf Tryd.prog 7=some ⟨4,true,[.v (.int .i64 0),.v (.int .i64 0),.ff,.v (.int .u8 0)],[(0,1,some false),(1,1,some false),(2,1,some false),(3,1,some false)],.struct,24⟩:=by kernel_rfl
theorem tt8:tiOf Tryd.prog 8=some ⟨4,true,[.v (.int .i64 0),.v (.int .i64 0),.ff,.v (.int .u8 0)],[(0,1,some false),(1,1,some false),(2,1,some false),(3,1,some false)],.struct,24⟩:=by kernel_rfl
theorem tt9:tiOf Tryd.prog 9=some ⟨1,false,[.v (.string ⟨#[]⟩)],[],.str,16⟩:=by kernel_rfl
theorem tt10:tiOf Tryd.prog 10=some ⟨1,false,[.v (.string ⟨#[]⟩)],[],.str,16⟩:=by kernel_rfl
theorem tt11:tiOf Tryd.prog 11=some ⟨1,false,[.v (.string ⟨#[]⟩)],[],.str,16⟩:=by kernel_rfl
theorem tt12:tiOf Tryd.prog 12=some ⟨1,false,[.v (.int .u64 0)],[],.int .u64,8⟩:=by kernel_rfl
theorem tt13:tiOf Tryd.prog 13=some ⟨2,true,[.v (.string ⟨#[]⟩),.v (.int .u64 0)],[(0,1,some false),(1,1,some false)],.struct,24⟩:=by kernel_rfl
theorem tt14:tiOf Tryd.prog 14=some ⟨2,true,[.v (.string ⟨#[]⟩),.v (.int .u64 0)],[(0,1,some false),(1,1,some false)],.struct,24⟩:=by kernel_rfl
theorem tt15:tiOf Tryd.prog 15=some ⟨1,false,[.v (.pointer none)],[],.ptr 126,8⟩:=by kernel_rfl
theorem tt16:tiOf Tryd.prog 16=some ⟨1,false,[.v (.pointer none)],[],.ptr 129,8⟩:=by kernel_rfl
theorem tt17:tiOf Tryd.prog 17=some ⟨1,false,[.v (.pointer none)],[],.ptr 137,8⟩:=by kernel_rfl
theorem tt18:tiOf Tryd.prog 18=some ⟨1,true,[.v (.pointer none)],[(0,1,some false)],.struct,8⟩:=by kernel_rfl
theorem tt19:tiOf Tryd.prog 19=some ⟨1,true,[.v (.pointer none)],[(0,1,some false)],.struct,8⟩:=by kernel_rfl
theorem tt20:tiOf Tryd.prog 20=some ⟨1,false,[.v .nilIface],[],.iface,16⟩:=by kernel_rfl
theorem tt21:tiOf Tryd.prog 21=some ⟨1,false,[.v (.int .i32 0)],[],.int .i32,4⟩:=by kernel_rfl
theorem tt22:tiOf Tryd.prog 22=some ⟨1,false,[.v (.slice none 0 0)],[],.slice 5,24⟩:=by kernel_rfl
theorem tt27:tiOf Tryd.prog 27=some ⟨1,false,[.v (.slice none 0 0)],[],.slice 52,24⟩:=by kernel_rfl
theorem tt29:tiOf Tryd.prog 29=some ⟨1,false,[.v (.int .i64 0)],[],.int .i64,8⟩:=by kernel_rfl
theorem tt32:tiOf Tryd.prog 32=some ⟨1,false,[.v (.slice none 0 0)],[],.slice 49,24⟩:=by kernel_rfl
theorem tt40:tiOf Tryd.prog 40=some ⟨3,true,[.ff,.v (.string ⟨#[]⟩),.v (.int .i64 0)],[(0,1,some false),(1,1,some false),(2,1,some false)],.struct,32⟩:=by kernel_rfl
theorem tt49:tiOf Tryd.prog 49=some ⟨7,true,[.v (.int .i64 0),.ff,.ff,.v (.string ⟨#[]⟩),.v (.int .i64 0),.v (.string ⟨#[]⟩),.v (.int .i64 0)],[(0,1,some false),(1,1,some false),(2,3,some true),(5,1,some false),(6,1,some false)],.struct,72⟩:=by kernel_rfl
theorem tt52:tiOf Tryd.prog 52=some ⟨7,true,[.v (.int .i64 0),.ff,.ff,.v (.string ⟨#[]⟩),.v (.int .i64 0),.v (.string ⟨#[]⟩),.v (.int .i64 0)],[(0,1,some false),(1,1,some false),(2,3,some true),(5,1,some false),(6,1,some false)],.struct,72⟩:=by kernel_rfl
theorem tt61:tiOf Tryd.prog 61=some ⟨1,false,[.v .nilFunc],[],.func,8⟩:=by kernel_rfl
theorem tt68:tiOf Tryd.prog 68=some ⟨1,false,[.v .nilFunc],[],.func,8⟩:=by kernel_rfl
theorem tt73:tiOf Tryd.prog 73=some ⟨1,false,[.v (.int .u64 0)],[],.int .u64,8⟩:=by kernel_rfl
theorem tt74:tiOf Tryd.prog 74=some ⟨1,false,[.v .nilFunc],[],.func,8⟩:=by kernel_rfl
theorem tt90:tiOf Tryd.prog 90=some ⟨256,true,List.replicate 256 .ff,[],.array 256 4,256⟩:=by kernel_rfl
theorem tt94:tiOf Tryd.prog 94=some ⟨1,false,[.v (.pointer none)],[],.ptr 90,8⟩:=by kernel_rfl
theorem tt95:tiOf Tryd.prog 95=some ⟨1,false,[.v (.pointer none)],[],.ptr 97,8⟩:=by kernel_rfl
theorem tt97:tiOf Tryd.prog 97=some ⟨2,true,[.v (.pointer none),.v (.slice none 0 0)],[(0,1,some false),(1,1,some false)],.struct,32⟩:=by kernel_rfl
theorem tt100:tiOf Tryd.prog 100=some ⟨1,false,[.v .nilIface],[],.iface,16⟩:=by kernel_rfl
theorem tt111:tiOf Tryd.prog 111=some ⟨1,false,[.v (.pointer none)],[],.ptr 5,8⟩:=by kernel_rfl
theorem tt113:tiOf Tryd.prog 113=some ⟨1,false,[.v (.pointer none)],[],.other,8⟩:=by kernel_rfl
theorem tt119:tiOf Tryd.prog 119=some ⟨2,true,[.v (.int .u8 0),.v (.int .u8 0)],[(0,1,some false),(1,1,some false)],.struct,2⟩:=by kernel_rfl
theorem tt120:tiOf Tryd.prog 120=some ⟨32,true,[.v (.int .u8 0),.v (.int .u8 0),.v (.int .u8 0),.v (.int .u8 0),.v (.int .u8 0),.v (.int .u8 0),.v (.int .u8 0),.v (.int .u8 0),.v (.int .u8 0),.v (.int .u8 0),.v (.int .u8 0),.v (.int .u8 0),.v (.int .u8 0),.v (.int .u8 0),.v (.int .u8 0),.v (.int .u8 0),.v (.int .u8 0),.v (.int .u8 0),.v (.int .u8 0),.v (.int .u8 0),.v (.int .u8 0),.v (.int .u8 0),.v (.int .u8 0),.v (.int .u8 0),.v (.int .u8 0),.v (.int .u8 0),.v (.int .u8 0),.v (.int .u8 0),.v (.int .u8 0),.v (.int .u8 0),.v (.int .u8 0),.v (.int .u8 0)],[],.array 16 119,32⟩:=by kernel_rfl
theorem tt122:tiOf Tryd.prog 122=some ⟨1,false,[.v (.int .u32 0)],[],.int .u32,4⟩:=by kernel_rfl
set_option maxRecDepth 100000 in
theorem TT:TTok Tryd.prog tt:=TTok.cons tt1 (TTok.cons tt2 (TTok.cons tt3 (TTok.cons tt4 (TTok.cons tt5 (TTok.cons tt6 (TTok.cons tt7 (TTok.cons tt8 (TTok.cons tt9 (TTok.cons tt10 (TTok.cons tt11 (TTok.cons tt12 (TTok.cons tt13 (TTok.cons tt14 (TTok.cons tt15 (TTok.cons tt16 (TTok.cons tt17 (TTok.cons tt18 (TTok.cons tt19 (TTok.cons tt20 (TTok.cons tt21 (TTok.cons tt22 (TTok.cons tt27 (TTok.cons tt29 (TTok.cons tt32 (TTok.cons tt40 (TTok.cons tt49 (TTok.cons tt52 (TTok.cons tt61 (TTok.cons tt68 (TTok.cons tt73 (TTok.cons tt74 (TTok.cons tt90 (TTok.cons tt94 (TTok.cons tt95 (TTok.cons tt97 (TTok.cons tt100 (TTok.cons tt111 (TTok.cons tt113 (TTok.cons tt119 (TTok.cons tt120 (TTok.cons tt122 (TTok.nil _))))))))))))))))))))))))))))))))))))))))))
end Go.Sy
namespace Go.Sy
open Go.Proofs
theorem mixed:Tryd.prog.follows .mixedOrders=true:=by kernel_rfl
end Go.Sy
namespace Go.Sy
open Go.Proofs
theorem und214:Tryd.prog.underlying 90=some (.array 256 4):=by kernel_rfl
theorem und4:Tryd.prog.underlying 4=some .bool:=by kernel_rfl
theorem cells4:Tryd.prog.cellsOf 4=1:=by kernel_rfl
set_option maxRecDepth 100000 in
set_option maxHeartbeats 1000000 in
theorem contains_c (σ:Snap) (p:UInt8->Bool) (g:Nat) (h:∀ u:UInt8,σ.cell ⟨g,u.toNat,none⟩=some (.bool (p u))) (u:UInt8) :
    PlainS Tryd.prog 72 [.a (.v (.pointer (some ⟨g,0,none⟩))),.a (.v (.int .u8 u.toNat))] σ (fun v=>v=.bool (p u)):=by
  refine enter_p Tryd.func72 rfl rfl (by (repeat' (first | exact trivial | constructor))) fun w=>?_
  have hu:u.toNat<256:=u.toNat_lt
  (repeat (first | refine cj_seq ?_ | refine cjr TT rfl ?_ | refine oj_then ?_))
  refine oj_idx_ptr 4 256 und214 und4 rfl rfl rfl rfl rfl rfl (by omega) (by omega) ⟨g,u.toNat,none⟩ (by rw [show Tryd.prog.cellsOf 4=1 from cells4,add0,Nat.mul_one];rfl) (oj_run TT rfl ?_)
  refine oj_ldS (c:=.b (p u)) TT rfl rfl rfl rfl rfl rfl rfl rfl (h u) trivial (oj_run TT rfl ?_)
  (repeat (first | refine oj_then ?_ | refine cj_ret ?_))
  refine nj_ret TT rfl fun β w' _ _=>?_
  rfl
set_option maxRecDepth 100000 in
set_option maxHeartbeats 1000000 in
theorem trimLeftASCII_c (σ:Snap) (p:UInt8->Bool) (g:Nat) (h:∀ u:UInt8,σ.cell ⟨g,u.toNat,none⟩=some (.bool (p u))) (l:List UInt8) :
    PlainS Tryd.prog 59 [.a (.v (.string (mkB l))),.a (.v (.pointer (some ⟨g,0,none⟩)))] σ (fun v=>v=.string (mkB (l.dropWhile p))):=by
  refine enter_p Tryd.func59 rfl rfl (by (repeat' (first | exact trivial | constructor))) fun w=>?_
  (repeat (first | refine cj_seq ?_ | refine cjr TT rfl ?_ | refine oj_then ?_ | refine cj_block ?_))
  refine cj_loop (fun _=>σ) (fun (k:List UInt8)=>[(0,.a (.v (.string (mkB k)))),(1,.a (.v (.pointer (some ⟨g,0,none⟩))))]) (fun _=>[]) (fun _=>[]) 0
    (fun k=>k.dropWhile p=l.dropWhile p) (fun k=>k.length) l rfl rfl (by (repeat first | exact trivial | refine ⟨rfl,?_⟩)) (by (repeat first | exact trivial | refine ⟨rfl,?_⟩)) rfl (by (repeat' (first | exact trivial | constructor))) (by (repeat' exact trivial)) fun k hk=>?_
  (repeat (first | refine cj_seq ?_ | refine cjr TT rfl ?_ | refine oj_then ?_))
  refine cj_if rfl (fun hc=>?_) (fun hc=>?_)
  · cases k with
    | nil=>simp at hc
    | cons u k =>
      (repeat (first | refine cj_seq ?_ | refine cjr TT rfl ?_ | refine cj_skip ?_ | refine cj_block ?_ | refine nj_then ?_))
      refine oj_index_str (u:=u) TT rfl rfl rfl rfl rfl rfl rfl rfl (by omega) (by rfl) (oj_run TT rfl ?_)
      skip
      refine oj_callP rfl rfl rfl rfl rfl Tryd.call72 (by (repeat' (first | exact trivial | constructor))) (contains_c σ p g h u) fun v hv=>⟨.a (.b (p u)),trivial,hv.symm,?_⟩
      refine oj_run TT rfl ?_
      (repeat refine oj_then ?_)
      refine cj_if rfl (fun hp=>?_) (fun hp=>?_)
      · (repeat (first | refine cj_seq ?_ | refine cjr TT rfl ?_ | refine oj_then ?_ | refine cj_exit ?_ | refine cj_ret ?_ | refine nj_then ?_ | refine nj_then_exit ?_ | refine nj_block_out ?_ | refine nj_block_on rfl ?_))
        refine nj_ret TT rfl fun β w' _ _=>?_
        have:p u=false:=by simpa using hp
        rw [<-hk,List.dropWhile_cons_of_neg (by simp [this])]
        rfl
      · have hp':p u=true:=by simpa using hp
        (repeat (first | refine cjr TT rfl ?_ | refine cj_skip ?_ | refine nj_then ?_))
        refine oj_slice_str (vl:=some (.int .i64 1)) (vh:=none) TT 1 (k.length+1) rfl rfl rfl rfl rfl rfl rfl rfl rfl (.inr ⟨_,_,rfl,rfl⟩) (.inl ⟨rfl,by simp⟩) (by omega) (by simp) (oj_run TT rfl ?_)
        (repeat (first | refine oj_nil ?_ | refine nj_block ?_))
        rw [mkB_extract,show List.drop 1 (List.take (k.length+1) (u::k))=k by simp]
        refine nj_again k ?_ (by simp) rfl (by (repeat first | exact trivial | refine ⟨rfl,?_⟩)) (by (repeat first | exact trivial | refine ⟨rfl,?_⟩)) rfl (by (repeat' (first | exact trivial | constructor))) (by (repeat' exact trivial))
        rw [<-hk,List.dropWhile_cons_of_pos hp']
  · (repeat (first | refine cj_seq ?_ | refine cjr TT rfl ?_ | refine oj_then ?_ | refine cj_exit ?_ | refine cj_ret ?_ | refine nj_then ?_ | refine nj_then_exit ?_ | refine nj_block_out ?_))
    refine nj_ret TT rfl fun β w' _ _=>?_
    have:k=[]:=by cases k with
      | nil=>rfl
      | cons u k=>simp at hc
    subst this
    rw [<-hk]
    rfl
def trimR (p:UInt8->Bool) (l:List UInt8):List UInt8:=(l.reverse.dropWhile p).reverse
theorem trimR_snoc (p:UInt8->Bool) (l:List UInt8) (u:UInt8):trimR p (l++[u])=if p u then trimR p l else l++[u]:=by
  unfold trimR
  rw [List.reverse_append,List.reverse_singleton,List.singleton_append,List.dropWhile_cons]
  split<;>simp
set_option maxRecDepth 100000 in
set_option maxHeartbeats 1000000 in
theorem trimRightASCII_c (σ:Snap) (p:UInt8->Bool) (g:Nat) (h:∀ u:UInt8,σ.cell ⟨g,u.toNat,none⟩=some (.bool (p u))) (l:List UInt8) (hl:l.length<=mostLen) :
    PlainS Tryd.prog 60 [.a (.v (.string (mkB l))),.a (.v (.pointer (some ⟨g,0,none⟩)))] σ (fun v=>v=.string (mkB (trimR p l))):=by
  simp only [mostLen] at hl
  refine enter_p Tryd.func60 rfl rfl (by (repeat' (first | exact trivial | constructor))) fun w=>?_
  (repeat (first | refine cj_seq ?_ | refine cjr TT rfl ?_ | refine oj_then ?_ | refine cj_block ?_))
  refine cj_loop (fun _=>σ) (fun (k:List UInt8)=>[(0,.a (.v (.string (mkB k)))),(1,.a (.v (.pointer (some ⟨g,0,none⟩))))]) (fun _=>[]) (fun _=>[]) 0
    (fun k=>k.length<=l.length/\trimR p k=trimR p l) (fun k=>k.length) l ⟨Nat.le_refl _,rfl⟩ rfl (by (repeat first | exact trivial | refine ⟨rfl,?_⟩)) (by (repeat first | exact trivial | refine ⟨rfl,?_⟩)) rfl (by (repeat' (first | exact trivial | constructor))) (by (repeat' exact trivial)) fun k ⟨hkl,hk⟩=>?_
  have hsz:=mkB_size k
  (repeat (first | refine cj_seq ?_ | refine cjr TT rfl ?_ | refine oj_then ?_))
  refine cj_if rfl (fun hc=>?_) (fun hc=>?_)
  · obtain ⟨k,u,rfl⟩:∃ k' u,k=k'++[u]:=by
      rcases List.eq_nil_or_concat k with rfl | ⟨k',u,rfl⟩
      · simp at hc
      · exact ⟨k',u,by simp⟩
    have hsz:(mkB (k++[u])).size=k.length+1:=by simp
    rw [List.length_append,List.length_singleton] at hkl
    (repeat (first | refine cj_seq ?_ | refine cjr TT rfl ?_ | refine cj_skip ?_ | refine cj_block ?_ | refine nj_then ?_ | (refine oj_minus rfl rfl rfl rfl rfl rfl (by omega) ?_;refine oj_run TT rfl ?_)))
    refine oj_index_str (u:=u) TT rfl rfl rfl rfl rfl rfl rfl rfl (by rw [hsz];omega) (by rw [hsz];simp) (oj_run TT rfl ?_)
    skip
    refine oj_callP rfl rfl rfl rfl rfl Tryd.call72 (by (repeat' (first | exact trivial | constructor))) (contains_c σ p g h u) fun v hv=>⟨.a (.b (p u)),trivial,hv.symm,?_⟩
    refine oj_run TT rfl ?_
    (repeat refine oj_then ?_)
    refine cj_if rfl (fun hp=>?_) (fun hp=>?_)
    · (repeat (first | refine cj_seq ?_ | refine cjr TT rfl ?_ | refine oj_then ?_ | refine cj_exit ?_ | refine cj_ret ?_ | refine nj_then ?_ | refine nj_then_exit ?_ | refine nj_block_out ?_ | refine nj_block_on rfl ?_))
      refine nj_ret TT rfl fun β w' _ _=>?_
      have:p u=false:=by simpa using hp
      rw [<-hk,trimR_snoc,this]
      rfl
    · have hp':p u=true:=by simpa using hp
      (repeat (first | refine cjr TT rfl ?_ | refine cj_skip ?_ | refine nj_then ?_ | (refine oj_minus rfl rfl rfl rfl rfl rfl (by omega) ?_;refine oj_run TT rfl ?_)))
      refine oj_slice_str (vl:=none) (vh:=some (.int .i64 ((mkB (k++[u])).size - 1))) TT 0 k.length rfl rfl rfl rfl rfl rfl rfl rfl rfl (.inl ⟨rfl,rfl⟩) (.inr ⟨_,_,rfl,by rw [hsz];omega⟩) (by omega) (by rw [hsz];omega) (oj_run TT rfl ?_)
      (repeat (first | refine oj_nil ?_ | refine nj_block ?_))
      rw [mkB_extract,show List.drop 0 (List.take k.length (k++[u]))=k by simp]
      refine nj_again k ⟨by omega,?_⟩ (by simp) rfl (by (repeat first | exact trivial | refine ⟨rfl,?_⟩)) (by (repeat first | exact trivial | refine ⟨rfl,?_⟩)) rfl (by (repeat' (first | exact trivial | constructor))) (by (repeat' exact trivial))
      rw [<-hk,trimR_snoc,hp']
      rfl
  · (repeat (first | refine cj_seq ?_ | refine cjr TT rfl ?_ | refine oj_then ?_ | refine cj_exit ?_ | refine cj_ret ?_ | refine nj_then ?_ | refine nj_then_exit ?_ | refine nj_block_out ?_))
    refine nj_ret TT rfl fun β w' _ _=>?_
    have:k=[]:=by cases k with
      | nil=>rfl
      | cons u k=>simp at hc
    subst this
    rw [<-hk]
    rfl
end Go.Sy
namespace Go.Sy
open Go.Proofs
def asciiCells (p:UInt8->Bool):List AT:=(List.range 256).map fun i=>.b (p (UInt8.ofNat i))
theorem asciiCells_len (p:UInt8->Bool):(asciiCells p).length=256:=by simp [asciiCells]
theorem asciiCells_lt (p:UInt8->Bool) (n:Nat):∀ c∈asciiCells p,c.lt n:=by
  intro c hc
  obtain ⟨i,_,rfl⟩:=List.mem_map.1 hc
  trivial
theorem asciiCells_get (p:UInt8->Bool) (u:UInt8):(asciiCells p)[u.toNat]?=some (.b (p u)):=by
  have:=u.toNat_lt
  simp [asciiCells,this]
theorem asciiCells_set (p:UInt8->Bool) (u:UInt8) (β:Nat->Addr):((asciiCells p).set u.toNat .tt).map (AT.den β)=(asciiCells fun x=>p x||x == u).map (AT.den β):=by
  apply List.ext_getElem?
  intro j
  simp only [List.getElem?_map,List.getElem?_set,asciiCells,List.length_map,List.length_range]
  by_cases hj:j<256
  · by_cases huj:u.toNat=j
    · subst huj
      rw [if_pos rfl,if_pos hj]
      simp [hj,AT.den]
    · rw [if_neg huj]
      have hne:UInt8.ofNat j≠u:=fun e=>huj (by rw [<-e];simp;omega)
      simp [hj,AT.den,hne]
  · have:=u.toNat_lt
    rw [if_neg (by omega)]
    simp [hj]
set_option maxRecDepth 100000 in
set_option maxHeartbeats 1000000 in
theorem makeASCIISet_c (σ:Snap) (l:List UInt8) (hl:l.length<=1000) (h128:∀ u∈l,u.toNat<128) :
    PlainS Tryd.prog 58 [.a (.v (.string (mkB l)))] σ (fun v=>v=(SV.tup [.agg (asciiCells l.contains),.a .tt]).den β0):=by
  refine enter_p Tryd.func58 rfl rfl (by (repeat' (first | exact trivial | constructor))) fun w=>?_
  have hsz:=mkB_size l
  (repeat (first | refine cj_seq ?_ | refine cjr TT rfl ?_ | refine oj_then ?_ | refine cj_block ?_))
  refine cj_rowset 0 (asciiCells fun _=>false) rfl (fun β=>?_) (asciiCells_lt _ _) ?_
  · show (List.replicate 256 AT.ff).map _=_
    rw [List.map_replicate,asciiCells,List.map_map]
    exact ((List.map_const' (l:=List.range 256) (b:=Value.bool false)).trans (by rw [List.length_range];rfl)).symm
  refine cj_loop (fun _=>σ) (fun (k:Nat)=>[(0,.a (.v (.string (mkB l)))),(2,.a (.p 0 0)),(4,.a (.v (.int .i64 k)))]) (fun k=>[(0,.loc 90,asciiCells (l.take k).contains)]) (fun _=>[]) 1
    (fun k=>k<=l.length) (fun k=>l.length - k) 0 (Nat.zero_le _) rfl (by (repeat first | exact trivial | refine ⟨rfl,?_⟩)) (by (repeat first | exact trivial | refine ⟨rfl,?_⟩)) rfl (by (repeat' (first | exact trivial | exact Nat.le_of_ble_eq_true rfl | constructor))) ⟨⟨Nat.zero_lt_one,asciiCells_lt _ _⟩,trivial⟩ fun k hk=>?_
  (repeat (first | refine cj_seq ?_ | refine cjr TT rfl ?_ | refine oj_then ?_))
  refine cj_if rfl (fun hc=>?_) (fun hc=>?_)
  · have hlt:k<l.length:=by rw [hsz] at hc;simpa using hc
    have hu:=h128 _ (List.getElem_mem hlt)
    (repeat (first | refine cj_seq ?_ | refine cjr TT rfl ?_ | refine cj_skip ?_ | refine cj_block ?_ | refine nj_then ?_))
    refine oj_index_str (u:=l[k]) TT rfl rfl rfl rfl rfl rfl rfl rfl (by omega) (by simp [hlt]) (oj_run TT rfl ?_)
    (repeat (first | refine cj_seq ?_ | refine cjr TT rfl ?_ | refine oj_then ?_))
    refine cj_if rfl (fun hp=>?_) (fun hp=>?_)
    · simp at hp;omega
    (repeat (first | refine cjr TT rfl ?_ | refine cj_skip ?_ | refine nj_then ?_))
    refine oj_idx_row 4 256 und214 und4 rfl rfl rfl rfl rfl rfl (by omega) (by omega) l[k].toNat (by rw [show Tryd.prog.cellsOf 4=1 from cells4];simp) ?_
    refine oj_store1 (c:=.tt) TT rfl rfl rfl rfl rfl rfl rfl rfl rfl rfl (by rw [asciiCells_len];omega) ?_
    (repeat (first | refine cjr TT rfl ?_ | refine oj_nil ?_ | refine nj_then ?_ | refine nj_block ?_ | (refine oj_add rfl rfl rfl rfl rfl rfl (by omega) ?_;refine oj_run TT rfl ?_)))
    refine nj_rowset 0 (asciiCells (l.take (k+1)).contains) rfl (fun β=>?_) (asciiCells_lt _ _) ?_
    · rw [asciiCells_set]
      congr 2
      funext x
      rw [Bool.eq_iff_iff]
      simp only [Bool.or_eq_true,beq_iff_eq,List.contains_iff_mem]
      rw [List.take_succ_eq_append_getElem hlt,List.mem_append,List.mem_singleton]
    refine nj_again (k+1) hlt (by omega) rfl (by (repeat first | exact trivial | refine ⟨rfl,?_⟩)) (by (repeat first | exact trivial | refine ⟨rfl,?_⟩)) rfl (by (repeat' (first | exact trivial | exact Nat.le_of_ble_eq_true rfl | constructor))) ⟨⟨Nat.zero_lt_one,asciiCells_lt _ _⟩,trivial⟩
  · have hk0:k=l.length:=by rw [hsz] at hc;simp at hc;omega
    subst hk0
    rw [List.take_length]
    (repeat (first | refine cj_seq ?_ | refine cjr TT rfl ?_ | refine oj_then ?_ | refine cj_exit ?_ | refine cj_ret ?_ | refine nj_then ?_ | refine nj_then_exit ?_ | refine nj_block_out ?_))
    refine nj_ret TT rfl fun β w' _ _=>?_
    rfl
def digitB (u:UInt8):Bool:=[48,49,50,51,52,53,54,55,56,57].contains u
def digitsS:ByteArray:=⟨#[48,49,50,51,52,53,54,55,56,57]⟩
set_option maxRecDepth 100000 in
set_option maxHeartbeats 1000000 in
theorem Trim_c (σ:Snap) (l:List UInt8) (hl:l.length<=mostLen) :
    PlainS Tryd.prog 47 [.a (.v (.string (mkB l))),.a (.v (.string digitsS))] σ (fun v=>v=.string (mkB ((trimR digitB l).dropWhile digitB))):=by
  have hsz:=mkB_size l
  refine enter_p Tryd.func47 rfl rfl (by (repeat' (first | exact trivial | constructor))) fun w=>?_
  (repeat (first | refine cj_seq ?_ | refine cjr TT rfl ?_ | refine oj_then ?_))
  refine oj_split 9 rfl (fun h=>?_) (fun h=>?_)
  · have h0:l=[]:=mkB_inj (of_decide_eq_true h)
    subst h0
    refine oj_run TT rfl ?_
    (repeat (first | refine cj_seq ?_ | refine cjr TT rfl ?_ | refine oj_then ?_ | refine cj_if_t rfl ?_ | refine cj_ret ?_ | refine nj_then_ret ?_))
    refine nj_ret TT rfl fun β w' _ _=>?_
    rfl
  refine oj_run TT rfl ?_
  (repeat refine oj_then ?_)
  refine cj_if rfl (fun h=>?_) (fun h=>?_)
  · exact absurd h (by decide)
  (repeat (first | refine cj_seq ?_ | refine cjr TT rfl ?_ | refine cj_skip ?_ | refine nj_then ?_))
  refine oj_split 17 rfl (fun h=>?_) (fun h=>?_)
  · exact absurd h (by decide)
  refine oj_run TT rfl ?_
  (repeat (first | refine cj_seq ?_ | refine cjr TT rfl ?_ | refine oj_then ?_ | refine cj_if_f rfl ?_ | refine cj_skip ?_ | refine nj_then ?_))
  refine oj_callP rfl rfl rfl rfl rfl Tryd.call58 (by (repeat' (first | exact trivial | constructor))) (makeASCIISet_c σ [48,49,50,51,52,53,54,55,56,57] (by decide) (by decide)) fun v hv=>⟨_,?_,hv.symm,?_⟩
  · intro x hx
    simp only [List.mem_cons,List.not_mem_nil,or_false] at hx
    rcases hx with rfl | rfl
    · exact asciiCells_lt _ _
    · trivial
  refine oj_run TT rfl ?_
  (repeat (first | refine cj_seq ?_ | refine cjr TT rfl ?_ | refine oj_then ?_ | refine cj_if_t rfl ?_))
  refine oj_own 0 1 256 rfl (by exact asciiCells_lt digitB 0) rfl (by decide) fun g=>?_
  refine oj_seal 0 rfl rfl rfl fun σ' hle hS=>?_
  have hcell:∀ u:UInt8,σ'.cell ⟨g,u.toNat,none⟩=some (.bool (digitB u)):=by
    intro u
    rcases hS with ⟨h1,_⟩ | ⟨g',h1,h2⟩
    · cases h1
    · injection h1 with h1
      simp only [Addr.mk.injEq,and_true] at h1
      subst h1
      refine h2 u.toNat _ ?_
      show ((asciiCells digitB).map AT.val)[u.toNat]?=_
      rw [List.getElem?_map,asciiCells_get]
      rfl
  refine oj_callP rfl rfl rfl rfl rfl Tryd.call60 (by (repeat' (first | exact trivial | constructor))) (trimRightASCII_c σ' digitB g hcell l hl) fun v hv=>⟨.a (.v (.string (mkB (trimR digitB l)))),trivial,hv.symm,?_⟩
  refine oj_callP rfl rfl rfl rfl rfl Tryd.call59 (by (repeat' (first | exact trivial | constructor))) (trimLeftASCII_c σ' digitB g hcell (trimR digitB l)) fun v hv=>⟨.a (.v (.string (mkB ((trimR digitB l).dropWhile digitB)))),trivial,hv.symm,?_⟩
  refine oj_run TT rfl ?_
  (repeat (first | refine oj_then ?_ | refine cj_ret ?_ | refine nj_then_ret ?_))
  refine nj_ret TT rfl fun β w' _ _=>?_
  rfl
theorem dropWhile_nil (p:UInt8->Bool):∀ (l:List UInt8),l.dropWhile p=[]↔∀ u∈l,p u=true
  | []=>by simp
  | x::l=>by
    rw [List.dropWhile_cons]
    split
    · rename_i h
      rw [dropWhile_nil p l]
      simp [h]
    · rename_i h
      simp [h]
theorem trim_digits (l:List UInt8):(trimR digitB l).dropWhile digitB=[]↔∀ u∈l,digitB u=true:=by
  have hR:trimR digitB l=[]↔∀ u∈l,digitB u=true:=by
    unfold trimR
    rw [List.reverse_eq_nil_iff,dropWhile_nil]
    simp
  constructor
  · intro h
    rw [dropWhile_nil] at h
    by_cases h0:trimR digitB l=[]
    · exact hR.1 h0
    · exfalso
      have hlast:∀ u,(trimR digitB l).getLast?=some u->digitB u=false:=by
        intro u hu
        unfold trimR at hu
        rw [List.getLast?_reverse] at hu
        have:=List.head?_dropWhile_not digitB l.reverse
        rw [hu] at this
        simpa using this
      cases hg:(trimR digitB l).getLast? with
      | none=>rw [List.getLast?_eq_none_iff] at hg;exact h0 hg
      | some u =>
        have h1:=hlast u hg
        have h2:=h u (List.mem_of_getLast? hg)
        rw [h1] at h2;cases h2
  · intro h
    rw [hR.2 h]
    rfl
def decSane (d:GDec):Bool :=
  let l:=d.dg.data.toList
  if l.length=0 then !d.neg&&decide (d.ex=0)
  else decide (l.length<=40)&&l.all digitB&&decide (-800<=d.ex)&&decide (d.ex<=800)&&decide (-400<=l.length+d.ex)&&decide (l.length+d.ex<=400)&&l.head? != some 48&&l.getLast? != some 48
set_option maxRecDepth 100000 in
set_option maxHeartbeats 1000000 in
theorem height_c (σ:Snap) (d:GDec) (h1:d.dg.size<=1000) (h2:-1000<=d.ex) (h3:d.ex<=1000):PlainS Tryd.prog 48 [.agg (decCells d)] σ (fun v=>v=.int .i64 (d.dg.size+d.ex)):=by
  refine enter_p Tryd.func48 rfl rfl (by (repeat' (first | exact trivial | exact decCells_lt _ _ | constructor))) fun w=>?_
  (repeat (first | refine cj_seq ?_ | refine cjr TT rfl ?_ | refine oj_then ?_ | refine cj_ret ?_ | (refine oj_add rfl rfl rfl rfl rfl rfl (by omega) ?_;refine oj_run TT rfl ?_)))
  refine nj_ret TT rfl fun β w' _ _=>?_
  rfl
theorem und23:Tryd.prog.underlying 40=some (.struct (Tryd.prog.fieldsOf 40)):=by kernel_rfl
def fieldsAre:List Field->List (Nat×Nat)->Bool
  | [],[]=>true
  | f :: fs, (t, o) :: l => f.name != "_" && Nat.beq f.type t && Nat.beq f.offset o && fieldsAre fs l
  | _,_=>false
theorem fieldsAre_cons {l : List Field} {t o : Nat} {r : List (Nat × Nat)} (h : fieldsAre l ((t, o) :: r) = true) : ∃ f fs, l = f :: fs ∧ f.name ≠ "_" ∧ f.type = t ∧ f.offset = o ∧ fieldsAre fs r = true := by
  cases l with
  | nil=>cases h
  | cons f fs =>
    simp only [fieldsAre,Bool.and_eq_true,bne_iff_ne,ne_eq] at h
    exact ⟨f,fs,rfl,h.1.1.1,Nat.eq_of_beq_eq_true h.1.1.2,Nat.eq_of_beq_eq_true h.1.2,h.2⟩
theorem eqFields_cons {P : Program} {w : World} {d : Nat} {xs ys : Array Value} {f : Field} {fs : List Field} {a b : Value} {r : Bool} (hn : f.name ≠ "_") (ha : (part f.type xs f.offset).run P w = .ok a w) (hb : (part f.type ys f.offset).run P w = .ok b w)
    (he:(Op.equalIn d f.type a b).run P w=.ok r w):(Op.eqFields d xs ys (f::fs)).run P w=if r then (Op.eqFields d xs ys fs).run P w else .ok false w:=by
  simp only [Op.eqFields,if_pos hn,Sem.run_bind,ha,hb,he,Result.andThen_ok]
  cases r<;>simp
theorem run_part1 {P:Program} {w:World} {t:TypeId} {xs:Array Value} {o:Nat} {d:TypeDesc} {v:Value} (hu:P.underlying t=some d) (hd:aggD d=false) (hv:xs[o]?=some v):(part t xs o).run P w=.ok v w:=by
  simp only [part,Sem.run_bind,run_isAgg hu,hd,Result.andThen_ok,Bool.false_eq_true,if_false,hv,Sem.run_pure]
theorem und9:Tryd.prog.underlying 9=some .string:=by kernel_rfl
theorem und3:Tryd.prog.underlying 3=some (.int .i64):=by kernel_rfl
theorem run_eqStr {P:Program} {w:World} (d:Nat) (t:TypeId) (a b:ByteArray) (h:P.underlying t=some .string):(Op.equalIn (d+1) t (.string a) (.string b)).run P w=.ok (decide (a=b)) w:=by
  simp only [Op.equalIn,Sem.run_bind,run_underlying h,Result.andThen_ok,Sem.run_pure]
  congr 1
  rw [beq_toListBytes,ByteArray.toList_eq,ByteArray.toList_eq,Bool.eq_iff_iff]
  simp only [beq_iff_eq,decide_eq_true_eq]
  exact ⟨fun h=>ByteArray.ext (Array.ext' h),fun h=>by rw [h]⟩
theorem eqDec_ok (m:Nat) (a b:GDec) (w:World):(Op.equalIn (m+1+1) 40 (.agg #[.bool a.neg,.string a.dg,.int .i64 a.ex]) (.agg #[.bool b.neg,.string b.dg,.int .i64 b.ex])).run Tryd.prog w=.ok (decide (a=b)) w:=by
  rw [run_equalIn_agg w (m+1) 40 _ _ und23 (by kernel_rfl)]
  have h:fieldsAre (Tryd.prog.fieldsOf 40).toList [(4,0),(9,1),(3,2)]=true:=by kernel_rfl
  generalize (Tryd.prog.fieldsOf 40).toList=fl at h
  obtain ⟨f0,fl,rfl,n0,t0,o0,h⟩:=fieldsAre_cons h
  obtain ⟨f1,fl,rfl,n1,t1,o1,h⟩:=fieldsAre_cons h
  obtain ⟨f2,fl,rfl,n2,t2,o2,h⟩:=fieldsAre_cons h
  cases fl with
  | cons _ _=>cases h
  | nil =>
    rw [eqFields_cons (r:=a.neg == b.neg) n0 (run_part1 (v:=.bool a.neg) (by rw [t0];exact und4) rfl (by rw [o0];rfl)) (run_part1 (v:=.bool b.neg) (by rw [t0];exact und4) rfl (by rw [o0];rfl)) (run_equalIn_bool' w m f0.type a.neg b.neg (by rw [t0];exact und4))]
    rw [eqFields_cons (r:=decide (a.dg=b.dg)) n1 (run_part1 (v:=.string a.dg) (by rw [t1];exact und9) rfl (by rw [o1];rfl)) (run_part1 (v:=.string b.dg) (by rw [t1];exact und9) rfl (by rw [o1];rfl)) (run_eqStr m f1.type a.dg b.dg (by rw [t1];exact und9))]
    rw [eqFields_cons (r:=a.ex == b.ex) n2 (run_part1 (v:=.int .i64 a.ex) (by rw [t2];exact und3) rfl (by rw [o2];rfl)) (run_part1 (v:=.int .i64 b.ex) (by rw [t2];exact und3) rfl (by rw [o2];rfl)) (run_equalIn_int w m f2.type .i64 .i64 a.ex b.ex (by rw [t2];exact und3))]
    simp only [Op.eqFields,Sem.run_pure]
    have:(decide (a=b))=(a.neg == b.neg&&(decide (a.dg=b.dg)&&a.ex == b.ex)):=by
      rw [Bool.eq_iff_iff]
      cases a;cases b
      simp
    rw [this]
    cases (a.neg == b.neg)<;>cases decide (a.dg=b.dg)<;>cases (a.ex == b.ex)<;>rfl
theorem oj_eqDec {cf:Cf} {Q:Exit->Act->World->Prop} {σ:Snap} {env:Env} {hp:HP} {A:List AE} {nh:Nat} {it:Item} {rest:List Item} {d:Nat} {x y:Operand} {yt:TypeId} {ca cb:List AT} (a b:GDec) (hP:cf.P=Tryd.prog)
    (hop:it.o.op=.binOp .eql 40 x y yt) (hd:it.o.dst=some d) (hg:guardVal it.guard env=some true) (hN:Nat.blt d cf.N=true) (hx:evalO env x=some (.agg ca)) (hy:evalO env y=some (.agg cb)) (hca:∀ β,ca.map (AT.den β)=(decCells a).map (AT.den β)) (hcb:∀ β,cb.map (AT.den β)=(decCells b).map (AT.den β))
    (hk:OJ cf rest Q σ ((d,.a (.b (decide (a=b))))::env) hp A nh):OJ cf (it::rest) Q σ env hp A nh:=by
  refine oj_val (.a (.b (decide (a=b)))) hd hg hN trivial (fun _ ac β ha w=>?_) hk
  have h1:ac.eval x=.agg #[.bool a.neg,.string a.dg,.int .i64 a.ex]:=(evalO_eval ha hx).trans (by simp only [SV.den,hca];rfl)
  have h2:ac.eval y=.agg #[.bool b.neg,.string b.dg,.int .i64 b.ex]:=(evalO_eval ha hy).trans (by simp only [SV.den,hcb];rfl)
  rw [hP]
  have hG:(eqGuard .eql 40 x y (.agg #[.bool a.neg,.string a.dg,.int .i64 a.ex]) (.agg #[.bool b.neg,.string b.dg,.int .i64 b.ex])).run Tryd.prog w=.ok () w:=run_eqGuard_agg w _ _ _ _ _ _ (by kernel_rfl)
  have hE:(Op.equalIn 10000 40 (.agg #[.bool a.neg,.string a.dg,.int .i64 a.ex]) (.agg #[.bool b.neg,.string b.dg,.int .i64 b.ex])).run Tryd.prog w=.ok (decide (a=b)) w:=eqDec_ok 9998 a b w
  have hB:(binOp .eql 40 (.agg #[.bool a.neg,.string a.dg,.int .i64 a.ex]) (.agg #[.bool b.neg,.string b.dg,.int .i64 b.ex])).run Tryd.prog w=.ok (.bool (decide (a=b))) w:=by
    rw [run_eql_struct,hE]
    rfl
  simp only [execOp,hop,h1,h2,Sem.run_bind,hG,hB,Result.andThen_ok,Sem.run_pure]
  rfl
theorem decSane_mk (ng:Bool) (l:List UInt8) (ex:Int) (h0:l.length≠0):decSane ⟨ng,mkB l,ex⟩=(decide (l.length<=40)&&l.all digitB&&decide (-800<=ex)&&decide (ex<=800)&&decide (-400<=l.length+ex)&&decide (l.length+ex<=400)&&l.head? != some 48&&l.getLast? != some 48):=by
  unfold decSane
  exact if_neg h0
def dec0:GDec:=⟨false,⟨#[]⟩,0⟩
set_option maxRecDepth 100000 in
set_option maxHeartbeats 1000000 in
theorem decSane_c (σ:Snap) (d:GDec) (hd:d.dg.size<=mostLen):PlainS Tryd.prog 34 [.agg (decCells d)] σ (fun v=>v=.bool (decSane d)):=by
  obtain ⟨ng,dg,ex⟩:=d
  obtain ⟨l,rfl⟩:=mkB_ex dg
  have hsz:=mkB_size l
  simp only at hd
  rw [hsz] at hd
  have hd':=hd
  simp only [mostLen] at hd'
  refine enter_p Tryd.func34 rfl rfl (by (repeat' (first | exact trivial | exact decCells_lt _ _ | constructor))) fun w=>?_
  (repeat (first | refine cj_seq ?_ | refine cjr TT rfl ?_ | refine oj_then ?_ | refine cj_block ?_))
  refine cj_if rfl (fun h=>?_) (fun h=>?_)
  · have h0:l=[]:=by simpa using h
    subst h0
    (repeat (first | refine cj_seq ?_ | refine cjr TT rfl ?_))
    refine oj_eqDec ⟨ng,mkB [],ex⟩ dec0 rfl rfl rfl rfl rfl rfl rfl (fun _=>rfl) (fun _=>rfl) (oj_run TT rfl ?_)
    (repeat (first | refine oj_then ?_ | refine cj_ret ?_ | refine nj_then_ret ?_ | refine nj_block_ret ?_))
    refine nj_ret TT rfl fun β w' _ _=>?_
    show Value.bool _=_
    congr 1
    simp only [decSane,mkB_list,List.length_nil,if_true,dec0,GDec.mk.injEq]
    rw [Bool.eq_iff_iff]
    cases ng<;>simp [mkB]
  · have h0:l≠[]:=by simpa using h
    have hl0:l.length≠0:=by simpa using h0
    have hlb:(mkB l).size=l.length:=hsz
    (repeat (first | refine cj_seq ?_ | refine cjr TT rfl ?_))
    refine oj_split 17 rfl (fun h=>?_) (fun h=>?_)
    · have h40:40<l.length:=by simp at h;omega
      refine oj_run TT rfl ?_
      (repeat (first | refine cj_seq ?_ | refine cjr TT rfl ?_ | refine oj_then ?_ | refine cj_if_t rfl ?_ | refine cj_ret ?_ | refine nj_then_ret ?_ | refine nj_block_ret ?_))
      refine nj_ret TT rfl fun β w' _ _=>?_
      show Value.bool false=_
      congr 1
      rw [decSane_mk _ _ _ hl0,show decide (l.length<=40)=false by simp;omega]
      simp
    have h40:l.length<=40:=by simp at h;omega
    refine oj_run TT rfl ?_
    refine oj_callP rfl rfl rfl rfl rfl Tryd.call47 (by (repeat' (first | exact trivial | constructor))) (Trim_c σ l hd) fun v hv=>⟨.a (.v (.string (mkB ((trimR digitB l).dropWhile digitB)))),trivial,hv.symm,?_⟩
    refine oj_run TT rfl ?_
    (repeat refine oj_then ?_)
    have htr:(decide (mkB ((trimR digitB l).dropWhile digitB)=⟨#[]⟩))=l.all digitB:=by
      rw [Bool.eq_iff_iff,decide_eq_true_eq,List.all_eq_true,<-trim_digits]
      exact ⟨fun h=>mkB_inj h,fun h=>by rw [h];rfl⟩
    refine cj_if rfl (fun h=>?_) (fun h=>?_)
    · rw [htr] at h
      (repeat (first | refine cj_seq ?_ | refine cjr TT rfl ?_ | refine oj_then ?_ | refine cj_ret ?_ | refine nj_then_ret ?_ | refine nj_block_ret ?_))
      refine nj_ret TT rfl fun β w' _ _=>?_
      show Value.bool false=_
      congr 1
      rw [decSane_mk _ _ _ hl0,show l.all digitB=false by simpa using h]
      simp
    rw [htr] at h
    have hall:l.all digitB=true:=by simpa using h
    (repeat (first | refine cj_seq ?_ | refine cjr TT rfl ?_))
    refine oj_split 27 rfl (fun h=>?_) (fun h=>?_)
    · refine oj_run TT rfl ?_
      (repeat (first | refine cj_seq ?_ | refine cjr TT rfl ?_ | refine oj_then ?_ | refine cj_if_t rfl ?_ | refine cj_ret ?_ | refine nj_then_ret ?_ | refine nj_block_ret ?_))
      refine nj_ret TT rfl fun β w' _ _=>?_
      show Value.bool false=_
      congr 1
      have:ex < -800:=by simpa using h
      rw [decSane_mk _ _ _ hl0,show decide (-800<=ex)=false by simp;omega]
      simp
    have hex1:-800<=ex:=by simpa using h
    refine oj_run TT rfl ?_
    (repeat refine oj_then ?_)
    refine cj_if rfl (fun h=>?_) (fun h=>?_)
    · (repeat (first | refine cj_seq ?_ | refine cjr TT rfl ?_ | refine oj_then ?_ | refine cj_ret ?_ | refine nj_then_ret ?_ | refine nj_block_ret ?_))
      refine nj_ret TT rfl fun β w' _ _=>?_
      show Value.bool false=_
      congr 1
      have:800<ex:=by simpa using h
      rw [decSane_mk _ _ _ hl0,show decide (ex<=800)=false by simp;omega]
      simp
    have hex2:ex<=800:=by simpa using h
    (repeat (first | refine cj_seq ?_ | refine cjr TT rfl ?_ | refine cj_skip ?_ | refine nj_then ?_ | refine nj_block ?_))
    refine oj_callP rfl rfl rfl rfl rfl Tryd.call48 (by (repeat' (first | exact trivial | exact decCells_lt _ _ | constructor))) (height_c σ ⟨ng,mkB l,ex⟩ (by show (mkB l).size<=1000;omega) (by show -1000<=ex;omega) (by show ex<=1000;omega)) fun v hv=>⟨.a (.v (.int .i64 ((mkB l).size+ex))),trivial,hv.symm,?_⟩
    refine oj_run TT rfl ?_
    (repeat (first | refine cj_seq ?_ | refine cjr TT rfl ?_ | refine oj_then ?_))
    have hfin:decSane ⟨ng,mkB l,ex⟩=(decide (-400<=l.length+ex)&&decide (l.length+ex<=400)&&l.head? != some 48&&l.getLast? != some 48):=by
      rw [decSane_mk _ _ _ hl0,hall,show decide (l.length<=40)=true by simp;omega,show decide (-800<=ex)=true by simp;omega,show decide (ex<=800)=true by simp;omega]
      simp
    have hx:(((mkB l).size:Nat):Int)=l.length:=by rw [hsz]
    refine oj_split 36 rfl (fun h=>?_) (fun h=>?_)
    rotate_left
    · refine oj_run TT rfl ?_
      (repeat (first | refine oj_then ?_ | refine cj_ret ?_))
      refine nj_ret TT rfl fun β w' _ _=>?_
      show Value.bool false=_
      congr 1
      rw [hfin,show decide (-400<=(l.length:Int)+ex)=false by rw [<-hx];exact h]
      simp
    have e1:decide (-400<=(l.length:Int)+ex)=true:=by rw [<-hx];exact h
    refine oj_run TT rfl ?_
    refine oj_split 40 rfl (fun h=>?_) (fun h=>?_)
    rotate_left
    · refine oj_run TT rfl ?_
      (repeat (first | refine oj_then ?_ | refine cj_ret ?_))
      refine nj_ret TT rfl fun β w' _ _=>?_
      show Value.bool false=_
      congr 1
      rw [hfin,show decide ((l.length:Int)+ex<=400)=false by rw [<-hx];exact h]
      simp
    have e2:decide ((l.length:Int)+ex<=400)=true:=by rw [<-hx];exact h
    refine oj_run TT rfl ?_
    have hlt:0<l.length:=by omega
    refine oj_index_str (u:=l[0]) TT rfl rfl rfl rfl rfl rfl rfl rfl (by omega) (by simp [hlt]) (oj_run TT rfl ?_)
    have e3:(l.head? != some 48)=!decide ((l[0].toNat:Int)=48):=by
      rw [List.head?_eq_getElem?,List.getElem?_eq_getElem hlt,Bool.eq_iff_iff]
      simp [<-UInt8.toNat_inj]
      omega
    refine oj_split 46 rfl (fun h=>?_) (fun h=>?_)
    rotate_left
    · refine oj_run TT rfl ?_
      (repeat (first | refine oj_then ?_ | refine cj_ret ?_))
      refine nj_ret TT rfl fun β w' _ _=>?_
      show Value.bool false=_
      congr 1
      rw [hfin,e3,h]
      simp
    refine oj_run TT rfl ?_
    refine oj_minus rfl rfl rfl rfl rfl rfl (by show -9223372036854775808<=((mkB l).size:Int) - 1/\((mkB l).size:Int) - 1<=9223372036854775807;omega) (oj_run TT rfl ?_)
    refine oj_index_str (u:=l[l.length - 1]) TT rfl rfl rfl rfl rfl rfl rfl rfl (by show 0<=((mkB l).size:Int) - 1;omega) (by
      show l[(((mkB l).size:Int) - 1).toNat]?=_
      rw [show (((mkB l).size:Int) - 1).toNat=l.length - 1 by omega,List.getElem?_eq_getElem (by omega)]) (oj_run TT rfl ?_)
    have e4:(l.getLast? != some 48)=!decide ((l[l.length - 1].toNat:Int)=48):=by
      rw [List.getLast?_eq_getElem?,List.getElem?_eq_getElem (by omega),Bool.eq_iff_iff]
      simp [<-UInt8.toNat_inj]
      omega
    (repeat (first | refine oj_then ?_ | refine cj_ret ?_))
    refine nj_ret TT rfl fun β w' _ _=>?_
    show Value.bool _=_
    congr 1
    rw [hfin,e1,e2,e3,e4,h]
    simp
end Go.Sy
/- Plain law: parts as bytes, and bytes as parts. No program in sight. -/
namespace Go.Sy
structure GPart where
  kd:Int
  b:Bool
  n:GDec
  s:ByteArray
  i:Int
deriving DecidableEq
def emptyB:ByteArray:=⟨#[]⟩
def part0:GPart:=⟨0,false,dec0,emptyB,0⟩
def rightG (p:GPart):Bool :=
  if p.kd=0 then decide (p=part0)
  else if p.kd=1 then decide ((⟨0,false,p.n,p.s,p.i⟩:GPart)=part0)
  else if p.kd=2 then decide ((⟨0,p.b,dec0,p.s,p.i⟩:GPart)=part0)&&decSane p.n
  else if p.kd=3 then decide ((⟨0,p.b,p.n,emptyB,p.i⟩:GPart)=part0)
  else if p.kd=9 then decide ((⟨0,p.b,p.n,p.s,0⟩:GPart)=part0)&&decide (0<=p.i)&&decide (p.i<=4294967295)
  else false
inductive Rt:GPart->Prop
  | null:Rt part0
  | bool (b:Bool):Rt ⟨1,b,dec0,emptyB,0⟩
  | num (n:GDec) (h:decSane n=true):Rt ⟨2,false,n,emptyB,0⟩
  | str (s:ByteArray):Rt ⟨3,false,dec0,s,0⟩
  | whole (i:Int) (h1:0<=i) (h2:i<=4294967295):Rt ⟨9,false,dec0,emptyB,i⟩
theorem right_iff (p:GPart):rightG p=true↔Rt p:=by
  obtain ⟨kd,b,n,s,i⟩:=p
  constructor
  · intro h
    unfold rightG at h
    dsimp only at h
    split at h
    · rename_i h0
      rw [decide_eq_true_eq] at h
      rw [h]
      exact Rt.null
    split at h
    · rename_i h0 h1
      simp only [decide_eq_true_eq,part0,GPart.mk.injEq,true_and] at h
      obtain ⟨rfl,rfl,rfl⟩:=h
      subst h1
      exact Rt.bool b
    split at h
    · rename_i h0 h1 h2
      simp only [Bool.and_eq_true,decide_eq_true_eq,part0,GPart.mk.injEq,true_and] at h
      obtain ⟨⟨rfl,rfl,rfl⟩,hs⟩:=h
      subst h2
      exact Rt.num n hs
    split at h
    · rename_i h0 h1 h2 h3
      simp only [decide_eq_true_eq,part0,GPart.mk.injEq,true_and] at h
      obtain ⟨rfl,rfl,rfl⟩:=h
      subst h3
      exact Rt.str s
    split at h
    · rename_i h0 h1 h2 h3 h9
      simp only [Bool.and_eq_true,decide_eq_true_eq,part0,GPart.mk.injEq,true_and,and_true] at h
      obtain ⟨⟨⟨rfl,rfl,rfl⟩,ha⟩,hb⟩:=h
      subst h9
      exact Rt.whole i ha hb
    · cases h
  · intro h
    cases h with
    | null=>rfl
    | bool b=>simp [rightG,part0]
    | num n h=>simp [rightG,part0,h]
    | str s=>simp [rightG,part0]
    | whole i h1 h2=>simp [rightG,part0,h1,h2]
def byteOf (x:Int):UInt8:=UInt8.ofNat (x % 256).toNat
theorem byteOf_nat (x:Int):((byteOf x).toNat:Int)=x % 256:=by
  unfold byteOf
  rw [UInt8.toNat_ofNat']
  omega
theorem all8 {p:UInt8->Prop} (h:∀ n:Fin 256,p (UInt8.ofNat n.val)) (c:UInt8):p c:=by
  have:=h ⟨c.toNat,c.toNat_lt⟩
  simpa using this
theorem turn_turn:∀ c:UInt8,255 - (255 - c)=c:=all8 (by decide +kernel)
theorem fig_back:∀ c:UInt8,48+(c - 48+1) - 1=c:=all8 (by decide +kernel)
theorem fig_there:∀ c:UInt8,(48+c - 1) - 48+1=c:=all8 (by decide +kernel)
theorem fig_iff':∀ c:UInt8,digitB c=true->c - 48+1≠0/\c - 48+1<=10:=all8 (by decide +kernel)
def sizeG (d:GDec):List UInt8 :=
  byteOf ((d.dg.size+d.ex+1000) / 256)::byteOf (d.dg.size+d.ex+1000)::(d.dg.data.toList.map (fun c=>c - 48+1)++[0])
def turnG (l:List UInt8):List UInt8:=l.map fun c=>255 - c
theorem turnG_turn (l:List UInt8):turnG (turnG l)=l:=by
  unfold turnG
  rw [List.map_map]
  conv=>rhs;rw [<-List.map_id l]
  exact List.map_congr_left fun c _=>turn_turn c
def escG:List UInt8->List UInt8
  | []=>[]
  | c::l=>if c=0 then 0::255::escG l else c::escG l
def putG (p:GPart):List UInt8 :=
  if p.kd=0 then [16]
  else if p.kd=1 then [if p.b then 33 else 32]
  else if p.kd=2 then (if p.n.dg.size=0 then [49] else if p.n.neg then 48::turnG (sizeG p.n) else 50::sizeG p.n)
  else if p.kd=3 then 64::(escG p.s.data.toList++[0,0])
  else [80,byteOf (p.i / 16777216),byteOf (p.i / 65536),byteOf (p.i / 256),byteOf p.i]
def encG (l:List GPart):List UInt8×Int :=
  if 16<l.length then ([],4) else if l.all rightG then (l.flatMap putG,0) else ([],1)
def zsplit:List UInt8->Option (List UInt8×List UInt8)
  | []=>none
  | c::l=>if c=0 then some ([],l) else (zsplit l).map fun p=>(c::p.1,p.2)
theorem zsplit_some:∀ {l a r:List UInt8},zsplit l=some (a,r)->l=a++0::r/\∀ c∈a,c≠0
  | [],_,_,h=>by cases h
  | c::l,a,r,h=>by
    unfold zsplit at h
    split at h
    · rename_i h0
      injection h with h
      injection h with h1 h2
      subst h1 h2 h0
      exact ⟨rfl,fun c hc=>by cases hc⟩
    · rename_i h0
      cases hz:zsplit l with
      | none=>rw [hz] at h;cases h
      | some p =>
        rw [hz] at h
        injection h with h
        injection h with h1 h2
        obtain ⟨e1,e2⟩:=zsplit_some (l:=l) (a:=p.1) (r:=p.2) hz
        subst h1 h2
        refine ⟨by rw [List.cons_append,<-e1],fun x hx=>?_⟩
        rcases List.mem_cons.1 hx with rfl | hx
        · exact h0
        · exact e2 x hx
theorem zsplit_of:∀ (a r:List UInt8),(∀ c∈a,c≠0)->zsplit (a++0::r)=some (a,r)
  | [],r,_=>by simp [zsplit]
  | c::a,r,h=>by
    rw [List.cons_append,zsplit,if_neg (h c List.mem_cons_self),zsplit_of a r fun x hx=>h x (List.mem_cons_of_mem c hx)]
    rfl
theorem zsplit_none:∀ {l:List UInt8},zsplit l=none↔∀ c∈l,c≠0
  | []=>by simp [zsplit]
  | c::l=>by
    unfold zsplit
    split
    · rename_i h0
      simp [h0]
    · rename_i h0
      rw [Option.map_eq_none_iff,zsplit_none]
      simp [h0]
def decOf (neg:Bool) (x y:UInt8) (ds:List UInt8):GDec:=⟨neg,mkB (ds.map fun c=>48+c - 1),x.toNat*256+y.toNat - 1000 - ds.length⟩
def numberG (b:List UInt8) (neg:Bool):Option (GDec×List UInt8) :=
  match (if neg then turnG b else b) with
  | x::y::s =>
    match zsplit s with
    | some (ds,_)=>if ds=[]\/(ds.any fun c=>decide (10<c))=true\/decSane (decOf neg x y ds)=false then none else some (decOf neg x y ds,b.drop (3+ds.length))
    | none=>none
  | _=>none
def textG:List UInt8->Option (List UInt8×List UInt8)
  | []=>none
  | [_]=>none
  | c::d::r =>
    if c≠0 then (textG (d::r)).map fun p=>(c::p.1,p.2)
    else if d=0 then some ([],r) else if d=255 then (textG r).map fun p=>(0::p.1,p.2) else none
def firstG (b:List UInt8):Option (GPart×List UInt8) :=
  match b with
  | []=>none
  | t::r =>
    if t=16 then some (part0,r)
    else if t=32\/t=33 then some (⟨1,decide (t=33),dec0,emptyB,0⟩,r)
    else if t=49 then some (⟨2,false,dec0,emptyB,0⟩,r)
    else if t=48\/t=50 then (numberG r (decide (t=48))).map fun p=>(⟨2,false,p.1,emptyB,0⟩,p.2)
    else if t=64 then (textG r).map fun p=>(⟨3,false,dec0,mkB p.1,0⟩,p.2)
    else if t=80 then
      match r with
      | a::b::c::d::r=>some (⟨9,false,dec0,emptyB,(a.toNat:Int)*16777216+b.toNat*65536+c.toNat*256+d.toNat⟩,r)
      | _=>none
    else none
def decF:Nat->Nat->List UInt8->Except Int (List GPart)
  | 0,_,_=>.ok []
  | _+1,_,[]=>.ok []
  | n+1,k,c::b =>
    match firstG (c::b) with
    | none=>.error 2
    | some (p,r)=>if k=16 then .error 4 else
      match decF n (k+1) r with
      | .ok l=>.ok (p::l)
      | .error e=>.error e
def decG (b:List UInt8):List GPart×Int :=
  match decF b.length 0 b with
  | .ok l=>(l,0)
  | .error e=>([],e)
theorem esc_text:∀ (s u:List UInt8),textG (escG s++0::0::u)=some (s,u)
  | [],u=>by simp [escG,textG]
  | c::s,u=>by
    have ih:=esc_text s u
    unfold escG
    split
    · rename_i h0
      subst h0
      rw [List.cons_append,List.cons_append,textG,ih]
      simp
    · rename_i h0
      have:∃ d r,escG s++0::0::u=d::r:=by
        cases h:escG s++0::0::u with
        | nil=>simp at h
        | cons d r=>exact ⟨d,r,rfl⟩
      obtain ⟨d,r,e⟩:=this
      rw [List.cons_append,e,textG,if_pos h0,<-e,ih]
      rfl
theorem text_esc:∀ (b:List UInt8) {s r:List UInt8},textG b=some (s,r)->b=escG s++0::0::r
  | [],_,_,h=>by cases h
  | [_],_,_,h=>by cases h
  | c::d::b,s,r,h=>by
    unfold textG at h
    split at h
    · rename_i h0
      cases hz:textG (d::b) with
      | none=>rw [hz] at h;cases h
      | some p =>
        rw [hz] at h
        injection h with h
        injection h with h1 h2
        have:=text_esc (d::b) (s:=p.1) (r:=p.2) hz
        subst h1 h2
        rw [this,escG,if_neg h0]
        rfl
    · rename_i h0
      have h0:c=0:=by simpa using h0
      split at h
      · rename_i hd
        injection h with h
        injection h with h1 h2
        subst h1 h2 h0 hd
        rfl
      · split at h
        · rename_i hd0 hd
          cases hz:textG b with
          | none=>rw [hz] at h;cases h
          | some p =>
            rw [hz] at h
            injection h with h
            injection h with h1 h2
            have:=text_esc b (s:=p.1) (r:=p.2) hz
            subst h1 h2 h0 hd
            rw [this,escG,if_pos rfl]
            rfl
        · cases h
theorem sane_size {d:GDec} (h:decSane d=true) (h0:d.dg.size≠0):(∀ c∈d.dg.data.toList,digitB c=true) /\ -400<=d.dg.size+d.ex/\d.dg.size+d.ex<=400:=by
  obtain ⟨ng,dg,ex⟩:=d
  obtain ⟨l,rfl⟩:=mkB_ex dg
  simp only [mkB_size] at h0 ⊢
  rw [decSane_mk _ _ _ h0] at h
  simp only [Bool.and_eq_true,decide_eq_true_eq,List.all_eq_true] at h
  obtain ⟨⟨⟨⟨⟨⟨⟨-,h1⟩,-⟩,-⟩,h2⟩,h3⟩,-⟩,-⟩:=h
  exact ⟨h1,h2,h3⟩
theorem sane_zero {d:GDec} (h:decSane d=true) (h0:d.dg.size=0):d=dec0:=by
  obtain ⟨ng,dg,ex⟩:=d
  obtain ⟨l,rfl⟩:=mkB_ex dg
  have h0:l.length=0:=by simpa using h0
  have hl:l=[]:=List.eq_nil_of_length_eq_zero h0
  subst hl
  simp only [decSane,mkB_list,List.length_nil,if_true,Bool.and_eq_true,Bool.not_eq_true',decide_eq_true_eq] at h
  obtain ⟨rfl,rfl⟩:=h
  rfl
theorem any_false_of {l:List UInt8} (h:∀ c∈l,c<=10):(l.any fun c=>decide (10<c))=false:=by
  rw [List.any_eq_false]
  intro c hc
  have:=h c hc
  rw [decide_eq_true_eq,UInt8.not_lt]
  exact this
theorem dec_of_size {d:GDec} (h:decSane d=true) (h0:d.dg.size≠0):decOf d.neg (byteOf ((d.dg.size+d.ex+1000) / 256)) (byteOf (d.dg.size+d.ex+1000)) (d.dg.data.toList.map fun c=>c - 48+1)=d:=by
  obtain ⟨-,h1,h2⟩:=sane_size h h0
  obtain ⟨ng,dg,ex⟩:=d
  obtain ⟨l,rfl⟩:=mkB_ex dg
  simp only [mkB_size] at h1 h2 ⊢
  unfold decOf
  rw [mkB_list,List.map_map,List.length_map,byteOf_nat,byteOf_nat]
  congr 1
  · congr 1
    conv=>rhs;rw [<-List.map_id l]
    exact List.map_congr_left fun c _=>fig_back c
  · omega
theorem size_len (d:GDec):(sizeG d).length=3+d.dg.size:=by
  unfold sizeG
  rw [List.length_cons,List.length_cons,List.length_append,List.length_map,List.length_singleton,Array.length_toList]
  show d.dg.data.size+1+1+1=3+d.dg.data.size
  omega
theorem size_number {d:GDec} (h:decSane d=true) (h0:d.dg.size≠0) (u:List UInt8):numberG ((if d.neg then turnG (sizeG d) else sizeG d)++u) d.neg=some (d,u):=by
  obtain ⟨hd,-,-⟩:=sane_size h h0
  have hs:(if d.neg then turnG ((if d.neg then turnG (sizeG d) else sizeG d)++u) else ((if d.neg then turnG (sizeG d) else sizeG d)++u))=sizeG d++(if d.neg then turnG u else u):=by
    cases d.neg
    · rfl
    · show turnG (turnG (sizeG d)++u)=sizeG d++turnG u
      have:turnG (turnG (sizeG d)++u)=turnG (turnG (sizeG d))++turnG u:=List.map_append
      rw [this,turnG_turn]
  unfold numberG
  rw [hs]
  unfold sizeG
  rw [List.cons_append,List.cons_append,List.append_assoc]
  dsimp only
  rw [show ([0]++(if d.neg then turnG u else u))=0::(if d.neg then turnG u else u) from rfl,zsplit_of _ _ (fun c hc=>by
    obtain ⟨x,hx,rfl⟩:=List.mem_map.1 hc
    exact (fig_iff' x (hd x hx)).1)]
  dsimp only
  rw [dec_of_size h h0,if_neg,List.length_map]
  · congr 2
    have hl:(if d.neg then turnG (sizeG d) else sizeG d).length=3+d.dg.data.toList.length:=by
      have:=size_len d
      split
      · unfold turnG;rw [List.length_map,this];rfl
      · rw [this];rfl
    show List.drop (3+d.dg.data.toList.length) _=u
    rw [<-hl]
    exact List.drop_left
  · rintro (h1 | h1 | h1)
    · rw [List.map_eq_nil_iff] at h1
      exact h0 (by show d.dg.data.size=0;rw [<-Array.length_toList,h1];rfl)
    · rw [any_false_of fun c hc=>by
        obtain ⟨x,hx,rfl⟩:=List.mem_map.1 hc
        exact (fig_iff' x (hd x hx)).2] at h1
      cases h1
    · rw [h] at h1;cases h1
theorem first_put {p:GPart} (h:Rt p) (u:List UInt8):firstG (putG p++u)=some (p,u):=by
  cases h with
  | null=>rfl
  | bool b=>cases b<;>rfl
  | num n h =>
    unfold putG
    dsimp only
    rw [if_neg (by decide),if_neg (by decide),if_pos rfl]
    by_cases h0:n.dg.size=0
    · rw [if_pos h0,sane_zero h h0]
      rfl
    rw [if_neg h0]
    have hn:=size_number h h0 u
    cases hneg:n.neg with
    | true =>
      rw [hneg] at hn
      simp only [if_true] at hn ⊢
      rw [List.cons_append]
      unfold firstG
      dsimp only
      rw [if_neg (by decide),if_neg (by decide),if_neg (by decide),if_pos (.inl rfl),decide_eq_true rfl,hn]
      rfl
    | false =>
      rw [hneg] at hn
      simp only [Bool.false_eq_true,if_false] at hn ⊢
      rw [List.cons_append]
      unfold firstG
      dsimp only
      rw [if_neg (by decide),if_neg (by decide),if_neg (by decide),if_pos (.inr rfl),show decide ((50:UInt8)=48)=false from rfl,hn]
      rfl
  | str s =>
    unfold putG
    dsimp only
    rw [if_neg (by decide),if_neg (by decide),if_neg (by decide),if_pos rfl,List.cons_append,List.append_assoc]
    unfold firstG
    dsimp only
    rw [if_neg (by decide),if_neg (by decide),if_neg (by decide),if_neg (by decide),if_pos rfl,show [0,0]++u=0::0::u from rfl,esc_text]
    rfl
  | whole i h1 h2 =>
    show firstG (80::byteOf (i / 16777216)::byteOf (i / 65536)::byteOf (i / 256)::byteOf i::u)=_
    unfold firstG
    dsimp only
    rw [if_neg (by decide),if_neg (by decide),if_neg (by decide),if_neg (by decide),if_neg (by decide),if_pos rfl]
    rw [byteOf_nat,byteOf_nat,byteOf_nat,byteOf_nat]
    congr 3
    omega
theorem byteOf_of {x:Int} {a:UInt8} (h:x % 256=a.toNat):byteOf x=a:=by
  apply UInt8.toNat_inj.1
  have:=byteOf_nat x
  omega
theorem number_size {b r:List UInt8} {neg:Bool} {d:GDec} (h:numberG b neg=some (d,r)):d.neg=neg/\decSane d=true/\d.dg.size≠0/\b=(if neg then turnG (sizeG d) else sizeG d)++r:=by
  unfold numberG at h
  split at h
  · rename_i x y s hb
    cases hz:zsplit s with
    | none=>rw [hz] at h;cases h
    | some q =>
      obtain ⟨ds,t⟩:=q
      obtain ⟨e1,e2⟩:=zsplit_some hz
      rw [hz] at h
      dsimp only at h
      split at h
      · cases h
      · rename_i hc
        injection h with h
        injection h with h1 h2
        have hc1:ds≠[]:=fun h=>hc (.inl h)
        have hc2:(ds.any fun c=>decide (10<c))=false:=by simpa using fun h=>hc (.inr (.inl h))
        have hc3:decSane (decOf neg x y ds)=true:=by simpa using fun h=>hc (.inr (.inr h))
        have hsz:(decOf neg x y ds).dg.size=ds.length:=by simp [decOf]
        have hsize:sizeG (decOf neg x y ds)=x::y::(ds++[0]):=by
          unfold sizeG
          rw [hsz]
          have hx:=x.toNat_lt
          have hy:=y.toNat_lt
          show byteOf ((ds.length+(x.toNat*256+y.toNat - 1000 - ds.length)+1000) / 256)::byteOf (ds.length+(x.toNat*256+y.toNat - 1000 - ds.length)+1000)::(((mkB (ds.map fun c=>48+c - 1)).data.toList.map fun c=>c - 48+1)++[0])=_
          rw [byteOf_of (a:=x) (by omega),byteOf_of (a:=y) (by omega),mkB_list,List.map_map]
          congr 3
          conv=>rhs;rw [<-List.map_id ds]
          exact List.map_congr_left fun c _=>fig_there c
        subst h1
        refine ⟨rfl,hc3,by rw [hsz];exact fun h=>hc1 (List.eq_nil_of_length_eq_zero h),?_⟩
        rw [hsize]
        have hb':b=(if neg then turnG (x::y::s) else x::y::s):=by
          cases neg
          · exact hb
          · show b=turnG (x::y::s)
            rw [<-hb]
            exact (turnG_turn b).symm
        have hpre:(if neg then turnG (x::y::s) else x::y::s)=(if neg then turnG (x::y::(ds++[0])) else x::y::(ds++[0]))++(if neg then turnG t else t):=by
          rw [e1]
          cases neg
          · simp
          · simp [turnG]
        have hr:r=(if neg then turnG t else t):=by
          rw [<-h2,hb',hpre]
          have hl:(if neg then turnG (x::y::(ds++[0])) else x::y::(ds++[0])).length=3+ds.length:=by
            cases neg<;>simp [turnG]<;>omega
          rw [<-hl]
          exact List.drop_left
        rw [hb',hpre,hr]
  · cases h
theorem put_first {b r:List UInt8} {p:GPart} (h:firstG b=some (p,r)):Rt p/\b=putG p++r:=by
  unfold firstG at h
  split at h
  · cases h
  rename_i t l
  split at h
  · rename_i h0
    injection h with h
    injection h with h1 h2
    subst h0 h1 h2
    exact ⟨Rt.null,rfl⟩
  split at h
  · rename_i h0
    injection h with h
    injection h with h1 h2
    subst h1 h2
    refine ⟨Rt.bool _,?_⟩
    rcases h0 with rfl | rfl<;>rfl
  split at h
  · rename_i h0
    injection h with h
    injection h with h1 h2
    subst h0 h1 h2
    exact ⟨Rt.num dec0 rfl,rfl⟩
  split at h
  · rename_i h0
    cases hz:numberG l (decide (t=48)) with
    | none=>rw [hz] at h;cases h
    | some q =>
      obtain ⟨d,r'⟩:=q
      rw [hz] at h
      injection h with h
      injection h with h1 h2
      dsimp only at h1 h2
      obtain ⟨e1,e2,e3,e4⟩:=number_size hz
      subst h1 h2
      refine ⟨Rt.num d e2,?_⟩
      unfold putG
      dsimp only
      rw [if_neg (by decide),if_neg (by decide),if_pos rfl,if_neg e3,e1]
      rcases h0 with rfl | rfl
      · rw [e4];rfl
      · rw [e4];rfl
  split at h
  · rename_i h0
    cases hz:textG l with
    | none=>rw [hz] at h;cases h
    | some q =>
      obtain ⟨s,r'⟩:=q
      rw [hz] at h
      injection h with h
      injection h with h1 h2
      dsimp only at h1 h2
      subst h0 h1 h2
      refine ⟨Rt.str _,?_⟩
      rw [text_esc l hz]
      show _=(64::(escG (mkB s).data.toList++[0,0]))++r'
      simp
  split at h
  · rename_i h0
    split at h
    · rename_i x a b c d r'
      injection h with h
      injection h with h1 h2
      have ha:=a.toNat_lt
      have hb:=b.toNat_lt
      have hc:=c.toNat_lt
      have hd:=d.toNat_lt
      subst h0 h1 h2
      refine ⟨Rt.whole _ (by omega) (by omega),?_⟩
      show _=80::byteOf (((a.toNat:Int)*16777216+b.toNat*65536+c.toNat*256+d.toNat) / 16777216)::byteOf (((a.toNat:Int)*16777216+b.toNat*65536+c.toNat*256+d.toNat) / 65536)::byteOf (((a.toNat:Int)*16777216+b.toNat*65536+c.toNat*256+d.toNat) / 256)::byteOf ((a.toNat:Int)*16777216+b.toNat*65536+c.toNat*256+d.toNat)::r'
      rw [byteOf_of (a:=a) (by omega),byteOf_of (a:=b) (by omega),byteOf_of (a:=c) (by omega),byteOf_of (a:=d) (by omega)]
    · cases h
  · cases h
theorem put_ne {p:GPart} (h:Rt p):putG p≠[]:=by
  intro e
  have h1:=first_put h []
  rw [e] at h1
  cases h1
theorem all_rt {l:List GPart}:l.all rightG=true↔∀ p∈l,Rt p:=by
  rw [List.all_eq_true]
  exact ⟨fun h p hp=>(right_iff p).1 (h p hp),fun h p hp=>(right_iff p).2 (h p hp)⟩
theorem dec_enc:∀ (l:List GPart) (k n:Nat),(∀ p∈l,Rt p)->k+l.length<=16->(l.flatMap putG).length<=n->decF n k (l.flatMap putG)=.ok l
  | [],k,n,_,_,_=>by cases n<;>rfl
  | p::l,k,n,h,hk,hn=>by
    have hp:=h p List.mem_cons_self
    have hf:=first_put hp (l.flatMap putG)
    have hne:=put_ne hp
    rw [List.flatMap_cons] at hn ⊢
    rw [List.length_append] at hn
    rw [List.length_cons] at hk
    have hl:0<(putG p).length:=List.length_pos_iff.2 hne
    cases n with
    | zero=>omega
    | succ n =>
      have ih:=dec_enc l (k+1) n (fun x hx=>h x (List.mem_cons_of_mem p hx)) (by omega) (by omega)
      cases e:putG p++l.flatMap putG with
      | nil=>exact absurd (List.append_eq_nil_iff.1 e).1 hne
      | cons c b =>
        rw [e] at hf
        rw [decF,hf]
        dsimp only
        rw [if_neg (by omega),ih]
theorem enc_dec:∀ (n k:Nat) (b:List UInt8) {l:List GPart},k<=16->b.length<=n->decF n k b=.ok l->(∀ p∈l,Rt p)/\k+l.length<=16/\l.flatMap putG=b
  | 0,k,b,l,hk,hb,h=>by
    injection h with h
    subst h
    exact ⟨fun p hp=>(by cases hp),by simpa using hk,(List.eq_nil_of_length_eq_zero (by omega)).symm⟩
  | n+1,k,[],l,hk,_,h=>by
    injection h with h
    subst h
    exact ⟨fun p hp=>(by cases hp),by simpa using hk,rfl⟩
  | n+1,k,c::b,l,hk,hb,h=>by
    rw [decF] at h
    cases hf:firstG (c::b) with
    | none=>rw [hf] at h;cases h
    | some q =>
      obtain ⟨p,r⟩:=q
      rw [hf] at h
      dsimp only at h
      split at h
      · cases h
      · rename_i h16
        obtain ⟨hp,e⟩:=put_first hf
        have hne:=put_ne hp
        have hl:0<(putG p).length:=List.length_pos_iff.2 hne
        have hlen:(c::b).length=(putG p).length+r.length:=by rw [e,List.length_append]
        cases hd:decF n (k+1) r with
        | error e=>rw [hd] at h;cases h
        | ok l' =>
          rw [hd] at h
          injection h with h
          obtain ⟨h1,h2,h3⟩:=enc_dec n (k+1) r (l:=l') (by omega) (by simp only [List.length_cons] at hlen hb;omega) hd
          subst h
          refine ⟨fun x hx=>?_,by rw [List.length_cons];omega,by rw [List.flatMap_cons,h3,e]⟩
          rcases List.mem_cons.1 hx with rfl | hx
          · exact hp
          · exact h1 x hx
def stripF:List UInt8->List UInt8
  | []=>[]
  | c::l=>if c=255 then stripF l else c::l
def afterG (b:List UInt8):List UInt8 :=
  match stripF b.reverse with
  | []=>[]
  | c::l=>(l.reverse)++[c+1]
def cmpU:List UInt8->List UInt8->Int
  | [],[]=>0
  | [],_::_ => -1
  | _::_,[]=>1
  | a::l,b::m=>if a<b then -1 else if b<a then 1 else cmpU l m
theorem cmp_front:∀ (p a b:List UInt8),cmpU (p++a) (p++b)=cmpU a b
  | [],a,b=>rfl
  | x::p,a,b=>by
    rw [List.cons_append,List.cons_append,cmpU,if_neg (UInt8.lt_irrefl x),if_neg (UInt8.lt_irrefl x),cmp_front p a b]
end Go.Sy
/- Arrays that are made; the less of two numbers. No program in sight. -/
namespace Go.Sy
section
variable {cf:Cf} {σ:Snap} {hp:HP} {A:List AE} {β:Nat->Addr} {w:World}
theorem StW.undrew {o:Obj} (h:StW cf σ hp A β (w.drew.alloc o)):StW cf σ hp A β (w.alloc o) :=
  ⟨h.os,h.tape,h.output,h.size,h.fr,h.sealed,h.le,h.grow,h.loc,h.ro,h.inj,h.arr,h.arrd,h.arrh⟩
end
section
variable {cf:Cf} {Q:Exit->Act->World->Prop} {σ:Snap} {env:Env} {hp:HP} {A:List AE} {nh:Nat} {it:Item} {rest:List Item}
end
end Go.Sy
/- Arrays that are made, of elements of several cells. No program in sight. -/
namespace Go.Sy
theorem madeCells_rep (z:List Value) (k:Nat):(madeCells z.toArray (k*z.length)).toList=(List.replicate k z).flatten:=by
  have hall:∀ r∈List.replicate k z,r.length=z.length:=fun r hr=>by rw [List.eq_of_mem_replicate hr]
  have hl:(List.replicate k z).flatten.length=k*z.length:=by rw [flat_len hall,List.length_replicate]
  have hl2:(madeCells z.toArray (k*z.length)).toList.length=k*z.length:=by rw [Array.length_toList,size_madeCells]
  apply List.ext_getElem?
  intro i
  by_cases hi:i<k*z.length
  · have hz:0<z.length:=by
      rcases Nat.eq_zero_or_pos z.length with h | h
      · rw [h,Nat.mul_zero] at hi;omega
      · exact h
    have hm:i / z.length<k:=Nat.div_lt_of_lt_mul (by rw [Nat.mul_comm];exact hi)
    have hj:i % z.length<z.length:=Nat.mod_lt _ hz
    have:=flat_get hall (m:=i / z.length) (j:=i % z.length) (r:=z) (c:=z[i % z.length]) (by rw [List.getElem?_replicate,if_pos hm]) (List.getElem?_eq_getElem hj)
    rw [Nat.mul_comm,Nat.div_add_mod] at this
    rw [this]
    unfold madeCells
    rw [Array.getElem?_toList,Array.getElem?_map,Array.getElem?_range,if_pos hi]
    simp [hj]
  · rw [List.getElem?_eq_none (by omega),List.getElem?_eq_none (by omega)]
section
variable {cf:Cf} {Q:Exit->Act->World->Prop} {σ:Snap} {env:Env} {hp:HP} {A:List AE} {nh:Nat} {it:Item} {rest:List Item}
theorem oj_makeSliceN {d:Nat} {t e n:Nat} {x y:Operand} {T:List (Nat×TI)} (hT:TTok cf.P T) {ti te:TI} (xs:List Value) (hop:it.o.op=.makeSlice t x y) (hd:it.o.dst=some d) (hg:guardVal it.guard env=some true) (hN:Nat.blt d cf.N=true)
    (htg:canSink it.tag=true) (hx:evalO env x=some (.a (.v (.int .i64 n)))) (hy:evalO env y=some (.a (.v (.int .i64 n)))) (ht:tget T t=some ti) (hkt:ti.kind=.slice e) (hte:tget T e=some te)
    (hby:n*te.bytes<=281474976710656) (hmax:n<=1000000000) (hxs:(madeCells (te.zero.map AT.val).toArray (n*te.size)).toList=xs)
    (hk:∀ g,OJ cf rest Q σ ((d,.a (.v (.slice (some ⟨g,0,none⟩) n n)))::env) hp (A++[⟨some ⟨g,0,none⟩,n,n,e,te.size,xs⟩]) nh):OJ cf (it::rest) Q σ env hp A nh:=by
  refine oj_step hd hg hN htg fun hb a β ha w hw=>?_
  obtain ⟨i1,d1,z1,hs1⟩:=tiOf_spec (hT _ _ ht)
  obtain ⟨i3,d3,z3,hs3⟩:=tiOf_spec (hT _ _ hte)
  have hut:cf.P.underlying t=some (.slice e):=by
    have h1:=hs1.kind
    rw [hkt] at h1
    have h2:=hs1.und
    cases d1<;>first
      | (simp only [kindD,TK.slice.injEq] at h1;subst h1;exact h2)
      | (simp only [kindD] at h1;cases h1)
  have hz3:z3.cells=(te.zero.map AT.val).toArray:=(zero_den hs3 β0).symm
  have hxl:xs.length=n*te.size:=by rw [<-hxs,Array.length_toList,size_madeCells]
  have hxe:a.eval x=.int .i64 n:=evalO_eval ha hx
  have hye:a.eval y=.int .i64 n:=evalO_eval ha hy
  have hrun:=run_make (P:=cf.P) w t e i3 z3 hut hs3.info hs3.zero .i64 .i64 n n (by omega) (Int.le_refl _) (by rw [hs3.bytes];rw [<-Int.natCast_mul,Nat.mul_comm];omega) (by omega)
  rw [hs3.size,Int.toNat_natCast,hz3] at hrun
  have hm:=((StW.nilArr e te.size).1 hw).moveArr (i:=A.length) (E:=⟨none,0,0,e,te.size,[]⟩) (E':=⟨some ⟨w.heap.size,0,none⟩,n,n,e,te.size,xs⟩) (cur':=madeCells (te.zero.map AT.val).toArray (n*te.size)) (by simp) rfl (Nat.le_refl _) (by simp only [maxLen];omega) (by dsimp only;exact hxl) (by rw [size_madeCells]) (by dsimp only;rw [hxs,<-hxl,List.take_length])
  have hset:(A++[(⟨none,0,0,e,te.size,[]⟩:AE)]).set A.length ⟨some ⟨w.heap.size,0,none⟩,n,n,e,te.size,xs⟩=A++[⟨some ⟨w.heap.size,0,none⟩,n,n,e,te.size,xs⟩]:=by
    rw [List.set_append_right _ _ (Nat.le_refl _),Nat.sub_self]
    rfl
  rw [hset] at hm
  refine ⟨.a (.v (.slice (some ⟨w.heap.size,0,none⟩) n n)),σ,hp,_,nh,_,β,?_,ha,hb.put (x:=.a (.v (.slice (some ⟨w.heap.size,0,none⟩) n n))) trivial d,hm.undrew,hk w.heap.size⟩
  simp only [execOp,hop,hxe,hye,Sem.run_bind,hrun,Result.andThen_ok,Sem.run_pure]
  rfl
end
section
variable {cf:Cf} {σ:Snap} {hp:HP} {A:List AE} {β:Nat->Addr} {w:World}
end
section
variable {cf:Cf} {Q:Exit->Act->World->Prop} {σ:Snap} {env:Env} {hp:HP} {A:List AE} {nh:Nat}
end
end Go.Sy
/- More rules: room made by 'append(nil, make(..)..)'; values read in a wider class. No program in sight. -/
namespace Go.Sy
section
variable {cf:Cf} {Q:Exit->Act->World->Prop} {σ:Snap} {env:Env} {hp:HP} {A:List AE} {nh:Nat} {it:Item} {rest:List Item}
theorem sealed_cell {σ:Snap} {w:World} (h:Sealed σ w) {a:Addr} {v:Value} (hv:σ.cell a=some v):w.cell? a=some v:=by
  unfold Snap.cell at hv
  unfold World.cell?
  split at hv
  · rename_i c e f hc
    rw [h _ _ hc]
    exact hv
  · cases hv
variable {W:(Nat->Addr)->World->Prop}
theorem StW.dropA {β:Nat->Addr} {w:World} (h:StW cf σ hp A β w):StW cf σ hp [] β w :=
  { h with arr:=fun i E hi=>(by simp at hi),arrd:=fun i j E F hi=>(by simp at hi),arrh:=fun i j E e cs hi=>(by simp at hi) }
end
end Go.Sy
/- Regions whose allocations and calls come in several orders, calls that are handed arrays among them. No program in sight. -/
namespace Go.Sy
section
variable {cf:Cf} {σ σb:Snap} {hp hpb:HP} {A:List AE} {β:Nat->Addr} {w0 x:World}
theorem StW.base (h0:StW cf σb hpb [] β w0) (hle:σb.le σ) (hs:subH hpb hp) (h:StW cf σ hp A β x):StW cf σb hpb [] β x:=by
  refine ⟨h.os,h.tape,h.output,h.size,h.fr,fun b o hb=>h.sealed b o (hle b o hb),h0.le,h0.grow,fun i e cs hi=>?_,h0.ro,fun i j e1 e2 l1 l2 hi hj heq=>h.inj i j e1 e2 l1 l2 (hs _ _ hi) (hs _ _ hj) heq,
    fun i E hi=>(by simp at hi),fun i j E F hi=>(by simp at hi),fun i j E e cs hi=>(by simp at hi)⟩
  obtain ⟨q1,q2,q3,q4⟩:=h.loc i e cs (hs _ _ hi)
  exact ⟨q1,q2,Snap.none_of_le hle q3,q4⟩
theorem StW.reβ {β':Nat->Addr} {nb:Nat} (hb:Bd [] hpb nb) (hβ:∀ i,i<nb->β' i=β i) (h:StW cf σb hpb [] β x):StW cf σb hpb [] β' x:=by
  refine ⟨h.os,h.tape,h.output,h.size,h.fr,h.sealed,h.le,h.grow,fun i e cs hi=>?_,fun i cs hi j c hc=>?_,fun i j e1 e2 l1 l2 hi hj heq=>?_,fun i E hi=>(by simp at hi),fun i j E F hi=>(by simp at hi),fun i j E e cs hi=>(by simp at hi)⟩
  · obtain ⟨hlt,hl⟩:=hb.hp i _ cs hi
    have:=h.loc i e cs hi
    rw [hβ i hlt,AT.denL_congr hβ hl]
    exact this
  · obtain ⟨hlt,hl⟩:=hb.hp i _ cs hi
    have:=h.ro i cs hi j c hc
    rw [hβ i hlt,AT.den_congr hβ (hl c (List.mem_of_getElem? hc))]
    exact this
  · have h1:=(hb.hp i _ l1 hi).1
    have h2:=(hb.hp j _ l2 hj).1
    exact h.inj i j e1 e2 l1 l2 hi hj (by rw [<-hβ i h1,<-hβ j h2];exact heq)
end
structure GB (cf:Cf) (ops:Array Oper) (U bef:List Nat) (σb:Snap) (hpb:HP) (nb n:Nat) (listed:Array Bool) (Q:Exit->Act->World->Prop) (σ:Snap) (env:Env) (hp:HP) (A:List AE) (nh:Nat):Prop where
  run:Region.noSelect ops=true->Bd env hp nh->Bd [] hpb nb->nb<=nh->σb.le σ->subH hpb hp->∀ a β,StA cf env β a->(∃ w,StW cf σ hp A β w)->(∃ w,StW cf σb hpb [] β w)->Closed ops listed ->
    wpAnyC cf.P ops U Q n listed a (fun w=>StW cf σb hpb [] β w) (fun w=>StW cf σ hp A β w)
structure GBK (cf:Cf) (ops:Array Oper) (U bef:List Nat) (σb:Snap) (hpb:HP) (nb n:Nat) (listed:Array Bool) (j:Nat) (Q:Exit->Act->World->Prop) (σ:Snap) (env:Env) (hp:HP) (A:List AE) (nh:Nat):Prop where
  run:Region.noSelect ops=true->Bd env hp nh->Bd [] hpb nb->nb<=nh->σb.le σ->subH hpb hp->∀ a β,StA cf env β a->(∃ w,StW cf σ hp A β w)->(∃ w,StW cf σb hpb [] β w)->Closed ops listed->j∈Region.ready .any ops listed ->
    stepC cf.P ops U Q j (wpAnyC cf.P ops U Q n (listed.setIfInBounds j true)) a (fun w=>StW cf σb hpb [] β w) (fun w=>StW cf σ hp A β w)
section
variable {cf:Cf} {Q:Exit->Act->World->Prop} {σ σb:Snap} {env:Env} {hp hpb:HP} {A:List AE} {nh nb:Nat} {ops:Array Oper} {U bef:List Nat} {n:Nat} {listed:Array Bool}
theorem cj_drawB {id:Nat} (m:Nat) (U:List Nat) (hpb:HP) (hm:cf.P.follows .mixedOrders=true) (hs:Region.noSelect ops=true) (hn:ops.size=m) (hsub:subH hpb hp)
    (h:GB cf ops U [] σ hpb nh m (Array.replicate m false) Q σ env hp A nh) (hd:okRd cf.rd ops=true:=by rfl):CJ cf (.region id ops true) Q σ env hp A nh:=by
  subst hn
  refine ⟨fun hb a β w ha hw=>wpIn_region_any hm ?_⟩
  have hc:Closed ops (Array.replicate ops.size false):=⟨by simp,fun j oj _ hl=>by
    exfalso
    rcases Nat.lt_or_ge j ops.size with h | h
    · simp [h] at hl
    · simp [h] at hl⟩
  have hbb:Bd [] hpb nh:=⟨fun i x h=>(by cases h),fun i k cs hi=>hb.hp i k cs (hsub _ _ hi)⟩
  have hb0:StW cf σ hpb [] β w:=by
    have:=hw.dropA
    exact this.sub hsub
  exact wpAnyIn_of_C (okRd_mem hd) _ _ _ _ _ _ hw.drew (h.run hs hb hbb (Nat.le_refl _) (Snap.le_refl _) hsub a β ha ⟨_,hw⟩ ⟨_,hb0⟩ hc)
theorem gb_val {i d:Nat} {o:Oper} {T:List (Nat×TI)} (hT:TTok cf.P T) {x:SV} (hi:ops[i]?=some o) (hr:(Region.ready .any ops listed).contains i=true) (hf:Region.free .any ops listed i=true)
    (hk:(U.contains i&&isLoad o.op)=false) (hd:o.dst=some d) (hg:guardVal (slotOf ops o) env=some true) (hN:Nat.blt d cf.N=true) (h:stepOp T o.op env hpb nh=some (.val x))
    (k:GB cf ops U (bef++[i]) σb hpb nb n (listed.setIfInBounds i true) Q σ ((d,x)::env) hp A nh):GB cf ops U bef σb hpb nb (n+1) listed Q σ env hp A nh:=by
  refine ⟨fun hs hb hbb hnb hle hsub a β ha hex hex0 hc=>?_⟩
  obtain ⟨w0,hw0⟩:=id hex0
  have hN':d<cf.N:=by simpa [Nat.blt_eq] using hN
  have hb':Bd env hpb nh:=hb.sub (fun i x h=>h) hsub
  have hx:x.lt nh:=(step_ok (o:=o) hT ha hb' h).1
  have hr':i∈Region.ready .any ops listed:=by simpa using hr
  have hw:Region.wanted o (yielded ops a.tmps)=true:=by rw [<-wantedS_slotOf];exact guardVal_ok ha hg
  have hrest:=k.run hs (hb.put hx d) hbb hnb hle hsub _ β (ha.put hN' x) hex hex0 (hc.set hr')
  refine wpAnyC_first hi (Region.noSelect_spec hs) n listed a _ _ hc (fun y hy=>hw0.base hle hsub hy) (Region.free_spec hi hf) hr' ⟨.inl ⟨hw,fun w hE0=>.inl ?_⟩,fun hu=>.inl ⟨hw,fun w _=>.inl ?_⟩⟩ (by rw [hd];exact hrest)
  · exact (step_ok (o:=o) hT ha hb' h).2 w fun _=>⟨σb,[],hE0⟩
  · refine (step_ok (o:=o) hT ha hb' h).2 w fun hl=>?_
    rw [hl,Bool.and_true] at hk
    rw [List.contains_iff_mem.2 hu] at hk
    cases hk
theorem gb_fork (js:List Nat) (hr:(Region.ready .any ops listed == js)=true) (hne:js.isEmpty=false) (k:∀ j,j∈js->GBK cf ops U bef σb hpb nb n listed j Q σ env hp A nh):GB cf ops U bef σb hpb nb (n+1) listed Q σ env hp A nh:=by
  refine ⟨fun hs hb hbb hnb hle hsub a β ha hex hex0 hc=>?_⟩
  have hr':=eq_of_beq hr
  refine ⟨fun h0=>?_,fun j hj=>(k j (by rw [<-hr'];exact hj)).run hs hb hbb hnb hle hsub a β ha hex hex0 hc hj⟩
  rw [hr'] at h0
  subst h0
  cases hne
theorem gb_one {i:Nat} (hr:(Region.ready .any ops listed == [i])=true) (k:GBK cf ops U bef σb hpb nb n listed i Q σ env hp A nh):GB cf ops U bef σb hpb nb (n+1) listed Q σ env hp A nh :=
  gb_fork [i] hr rfl fun j hj=>by rw [List.mem_singleton] at hj;subst hj;exact k
theorem gb_new {j d:Nat} {o:Oper} {T:List (Nat×TI)} (hT:TTok cf.P T) {e:TypeId} {cs:List AT} {x:AT} (hj:ops[j]?=some o) (h:stepOp T o.op env hp nh=some (.new e cs x)) (hd:o.dst=some d) (hg:guardVal (slotOf ops o) env=some true)
    (hN:Nat.blt d cf.N=true) (k:GB cf ops U (bef++[j]) σb hpb nb n (listed.setIfInBounds j true) Q σ ((d,.a x)::env) ((nh,.loc e,cs)::hp) A (nh+1)):GBK cf ops U bef σb hpb nb n listed j Q σ env hp A nh:=by
  refine ⟨fun hs hb hbb hnb hle hsub a β ha hex hex0 hcl hr=>?_⟩
  obtain ⟨w0,hw0⟩:=id hex0
  have hN':d<cf.N:=by simpa [Nat.blt_eq] using hN
  have hwant:Region.wanted o (yielded ops a.tmps)=true:=by rw [<-wantedS_slotOf];exact guardVal_ok ha hg
  obtain ⟨hcs,hx,hrun⟩:=step_ok (o:=o) hT ha hb h
  have hxl:(SV.a x).lt (nh+1):=by
    rcases hx with rfl | ⟨n,rfl⟩<;>exact Nat.lt_succ_self nh
  unfold stepC
  simp only [hj]
  rw [if_pos hwant]
  intro w hw
  unfold Oper.wq
  rw [hrun w]
  have hw':=hw.alloc (e:=e) hb hcs
  have hβ:=upd_old β nh w
  have hβb:∀ i,i<nb->upd β nh w i=β i:=fun i hi=>hβ i (by omega)
  have hβb':∀ i,i<nb->β i=upd β nh w i:=fun i hi=>(hβb i hi).symm
  have hsub':subH hpb ((nh,HK.loc e,cs)::hp):=by
    intro i y hy
    have hlt:=(hb.hp i y.1 y.2 (hsub i y hy)).1
    rw [HP.get_cons,if_neg (by omega)]
    exact hsub i y hy
  have hw0':=hw0.reβ hbb hβb
  refine ⟨_,_,hw',fun x hx=>hw0'.base hle hsub' hx,.inl fun _ h=>h.reβ hbb hβb',?_⟩
  rw [hd]
  exact k.run hs ((hb.mono (Nat.le_succ nh)).row (Nat.lt_succ_self nh) (fun c hc=>AT.lt_mono (Nat.le_succ nh) (hcs c hc)) |>.put hxl d) hbb (by omega) hle hsub' _ (upd β nh w) ((ha.congr hb hβ).put hN' (.a x)) ⟨_,hw'⟩ ⟨_,hw0'⟩ (hcl.set hr)
theorem gb_order (l:List (Nat×Tag)) (hl:(l.all fun p=>decide (p.1<ops.size))=true) (hq:noQuiet (itemsOf ops l)=true) (ho:orderFrom ops U bef l listed=true) (h:OJ cf (itemsOf ops l) Q σ env hp A nh) :
    GB cf ops U bef σb hpb nb l.length listed Q σ env hp A nh:=by
  refine ⟨fun hs hb hbb hnb hle hsub a β ha hex hex0 hc=>?_⟩
  obtain ⟨w0,hw0⟩:=hex0
  have:=run_wider (fun x hx=>hw0.base hle hsub hx) _ _ a hq (h.run hb a β ha hex)
  exact run_order hs l bef listed a _ _ hc (fun x hx=>hw0.base hle hsub hx) (fun p hp=>by simpa using List.all_eq_true.1 hl p hp) ho this
end
end Go.Sy
/- Bytes as a text, and a text's bytes appended. No program in sight. -/
namespace Go.Sy
theorem tk_slice {P:Program} {t e:TypeId} {ti:TI} (h:tiOf P t=some ti) (hk:ti.kind=.slice e):P.underlying t=some (.slice e):=by
  obtain ⟨i1,d1,z1,hs1⟩:=tiOf_spec h
  have h1:=hs1.kind
  rw [hk] at h1
  have h2:=hs1.und
  cases d1<;>first
    | (simp only [kindD,TK.slice.injEq] at h1;subst h1;exact h2)
    | (simp only [kindD] at h1;cases h1)
theorem tk_u8 {P:Program} {t:TypeId} {ti:TI} (h:tiOf P t=some ti) (hk:ti.kind=.int .u8):P.underlying t=some (.int .u8):=by
  obtain ⟨i1,d1,z1,hs1⟩:=tiOf_spec h
  have h1:=hs1.kind
  rw [hk] at h1
  have h2:=hs1.und
  cases d1<;>first
    | (simp only [kindD,TK.int.injEq] at h1;subst h1;exact h2)
    | (simp only [kindD] at h1;cases h1)
theorem tk_str {P:Program} {t:TypeId} {ti:TI} (h:tiOf P t=some ti) (hk:ti.kind=.str):P.underlying t=some .string:=by
  obtain ⟨i1,d1,z1,hs1⟩:=tiOf_spec h
  have h1:=hs1.kind
  rw [hk] at h1
  have h2:=hs1.und
  cases d1<;>first
    | exact h2
    | (simp only [kindD] at h1;cases h1)
def u8Rows (l:List UInt8):List (List AT):=l.map fun u=>[.v (.int .u8 u.toNat)]
def u8Xs (l:List UInt8):List Value:=l.map fun u=>.int .u8 u.toNat
def u8E (ao:Option Addr) (cap:Nat) (l:List UInt8):AE:=⟨ao,l.length,cap,5,1,u8Xs l⟩
theorem byteRows_u8 (s:ByteArray):byteRows s=u8Rows s.data.toList:=rfl
theorem u8Rows_len (l:List UInt8):(u8Rows l).length=l.length:=by simp [u8Rows]
theorem u8Xs_rows (l:List UInt8):u8Xs l=(u8Rows l).flatten.map AT.val:=by
  induction l with
  | nil=>rfl
  | cons u l ih =>
    show _::u8Xs l=_
    rw [ih]
    rfl
theorem u8Xs_append (a b:List UInt8):u8Xs (a++b)=u8Xs a++u8Xs b:=by simp [u8Xs]
theorem u8Rows_all (l:List UInt8):∀ r∈u8Rows l,r.length=1/\(∀ c∈r,c.lt 0)/\r.all AT.one=true:=by
  intro r hr
  obtain ⟨u,_,rfl⟩:=List.mem_map.1 hr
  exact ⟨rfl,fun c hc=>by rw [List.mem_singleton] at hc;subst hc;trivial,rfl⟩
theorem u8Rows_get {l:List UInt8} {i:Nat} {u:UInt8} (h:l[i]?=some u):(u8Rows l)[i]?=some [.v (.int .u8 u.toNat)]:=by unfold u8Rows;rw [List.getElem?_map,h];rfl
theorem u8Xs_get {l:List UInt8} {i:Nat} {u:UInt8} (h:l[i]?=some u):(u8Xs l)[i]?=some (.int .u8 u.toNat):=by unfold u8Xs;rw [List.getElem?_map,h];rfl
theorem u8_sealed {σ:Snap} {ao:Option Addr} {cap:Nat} {l:List UInt8} (hS:ArrSealed σ (u8E ao cap l)) (hc:l.length<=cap):SlAt σ ao l.length cap 1 (u8Rows l) :=
  hS.sl (u8Xs_rows l) (fun r hr=>⟨(u8Rows_all l r hr).1,(u8Rows_all l r hr).2.1⟩) (u8Rows_len l) rfl hc
section
variable {cf:Cf} {Q:Exit->Act->World->Prop} {σ:Snap} {env:Env} {hp:HP} {A:List AE} {nh:Nat} {it:Item} {rest:List Item}
theorem oj_strOf {d n cap:Nat} {x:Operand} {s t e:TypeId} {T:List (Nat×TI)} (hT:TTok cf.P T) {ts ti te:TI} {ao:Option Addr} {l:List UInt8} (hop:it.o.op=.convert s t x) (hd:it.o.dst=some d) (hg:guardVal it.guard env=some true)
    (hN:Nat.blt d cf.N=true) (htag:(match it.tag with | .pure=>false | _=>true)=true) (hx:evalO env x=some (.a (.v (.slice ao n cap)))) (hs:tget T s=some ts) (hks:ts.kind=.slice e) (hte:tget T e=some te) (hke:te.kind=.int .u8) (ht:tget T t=some ti) (hkt:ti.kind=.str)
    (H:SlAt σ ao n cap 1 (u8Rows l)) (k:OJ cf rest Q σ ((d,.a (.v (.string ⟨l.toArray⟩)))::env) hp A nh):OJ cf (it::rest) Q σ env hp A nh:=by
  refine oj_valW (.a (.v (.string ⟨l.toArray⟩))) hd hg hN trivial htag (fun _ a β ha w hw=>?_) k
  have us:=tk_slice (hT _ _ hs) hks
  have ue:=tk_u8 (hT _ _ hte) hke
  have ut:=tk_str (hT _ _ ht) hkt
  have hx':a.eval x=.slice ao n cap:=evalO_eval ha hx
  have hn:l.length=n:=by rw [<-H.len,u8Rows_len]
  have hrun:(convert s t (.slice ao n cap)).run cf.P w=.ok (.string ⟨l.toArray⟩) w:=by
    subst hn
    cases ao with
    | none =>
      have h0:l.length=0:=by
        rcases H.at_ with h | ⟨ad,h,_⟩
        · exact h
        · cases h
      have:l=[]:=List.eq_nil_of_length_eq_zero h0
      subst this
      exact Lib.run_convert_nil_bytes w s t e cap us ue ut
    | some ad =>
      refine run_convert_bytes_back w s t e ad cap l us ue ut fun j hj=>?_
      rcases H.at_ with h | ⟨ad',h,h2⟩
      · omega
      · injection h with h
        subst h
        have h3:=Snap.cell_sealed hw (h2 j _ 0 _ (u8Rows_get (List.getElem?_eq_getElem hj)) rfl)
        rw [Nat.mul_one,Nat.add_zero] at h3
        exact h3
  simp only [execOp,hop,hx',hrun,Sem.run_bind,Result.andThen_ok,Sem.run_pure]
  rfl
theorem oj_strOfA (i:Nat) {d n cap:Nat} {x:Operand} {s t e:TypeId} {T:List (Nat×TI)} (hT:TTok cf.P T) {ts ti te:TI} {ao:Option Addr} {l:List UInt8} (hop:it.o.op=.convert s t x) (hd:it.o.dst=some d) (hg:guardVal it.guard env=some true)
    (hN:Nat.blt d cf.N=true) (htag:(match it.tag with | .pure=>false | _=>true)=true) (hx:evalO env x=some (.a (.v (.slice ao n cap)))) (hs:tget T s=some ts) (hks:ts.kind=.slice e) (hte:tget T e=some te) (hke:te.kind=.int .u8) (ht:tget T t=some ti) (hkt:ti.kind=.str)
    (hi:A[i]?=some (u8E ao cap l)) (hn:l.length=n) (k:OJ cf rest Q σ ((d,.a (.v (.string ⟨l.toArray⟩)))::env) hp A nh):OJ cf (it::rest) Q σ env hp A nh:=by
  refine oj_valW (.a (.v (.string ⟨l.toArray⟩))) hd hg hN trivial htag (fun _ a β ha w hw=>?_) k
  have us:=tk_slice (hT _ _ hs) hks
  have ue:=tk_u8 (hT _ _ hte) hke
  have ut:=tk_str (hT _ _ ht) hkt
  have hx':a.eval x=.slice ao n cap:=evalO_eval ha hx
  have hE:=hw.arr i _ hi
  have hrun:(convert s t (.slice ao n cap)).run cf.P w=.ok (.string ⟨l.toArray⟩) w:=by
    subst hn
    rcases hE.2 with ⟨e1,e2,e3⟩ | ⟨g,cur,hg,_⟩
    · have e1:ao=none:=e1
      have e2:l.length=0:=e2
      have:l=[]:=List.eq_nil_of_length_eq_zero e2
      subst this e1
      exact Lib.run_convert_nil_bytes w s t e cap us ue ut
    · have hg:ao=some ⟨g,0,none⟩:=hg
      subst hg
      refine run_convert_bytes_back w s t e _ cap l us ue ut fun j hj=>?_
      rw [Addr.add_lit,Nat.zero_add]
      exact hE.cell rfl (u8Xs_get (List.getElem?_eq_getElem hj))
  simp only [execOp,hop,hx',hrun,Sem.run_bind,Result.andThen_ok,Sem.run_pure]
  rfl
theorem oj_append_str {d:Nat} {s x:Operand} {t u e:Nat} {T:List (Nat×TI)} (hT:TTok cf.P T) {ti tu te:TI} (i:Nat) {E:AE} {ao:Option Addr} {n cap:Nat} {y:ByteArray}
    (hop:appendOf it.o.op=some (s,x,t,u)) (hd:it.o.dst=some d) (hg:guardVal it.guard env=some true) (hN:Nat.blt d cf.N=true) (htg:canSink it.tag=true)
    (hs:evalO env s=some (.a (.v (.slice ao n cap)))) (hx:evalO env x=some (.a (.v (.string y)))) (hA:A[i]?=some E) (hE:(E.ao,E.n,E.cap,E.e)=(ao,n,cap,e))
    (ht:tget T t=some ti) (hkt:ti.kind=.slice e) (hu:tget T u=some tu) (hku:slOrStr tu.kind=true) (hte:tget T e=some te) (hsz:E.sz=te.size) (hs1:te.size=1) (hzl:te.zero.length=te.size)
    (hmax:n+y.size<=9223372036854775807) (hby:(n+y.size)*te.bytes<=140737488355328)
    (hk:∀ ao' cap',n+y.size<=cap'->OJ cf rest Q σ ((d,.a (.v (.slice ao' (n+y.size) cap')))::env) hp (A.set i ⟨ao',n+y.size,cap',E.e,E.sz,E.xs++u8Xs y.data.toList⟩) nh):OJ cf (it::rest) Q σ env hp A nh:=by
  simp only [Prod.mk.injEq] at hE
  obtain ⟨rfl,rfl,rfl,rfl⟩:=hE
  refine oj_step hd hg hN htg fun hb a β ha w hw=>?_
  have hut:=tk_slice (hT _ _ ht) hkt
  obtain ⟨i2,d2,z2,hs2⟩:=tiOf_spec (hT _ _ hu)
  obtain ⟨i3,d3,z3,hs3⟩:=tiOf_spec (hT _ _ hte)
  have hz3:z3.cells.size=E.sz:=by
    have:=zero_den hs3 β
    rw [<-this,hsz]
    simp [hzl]
  have hxe:a.eval x=.string y:=evalO_eval ha hx
  have hse:a.eval s=.slice E.ao E.n E.cap:=evalO_eval ha hs
  have hnl:(u8Xs y.data.toList).length=y.size*E.sz:=by
    rw [hsz,hs1,Nat.mul_one]
    simp only [u8Xs,List.length_map,Array.length_toList]
    rfl
  obtain ⟨ao',cap',w',hrun,hw',hc'⟩:=hw.append hA (t:=t) (u:=u) (ty:=it.o.type) (x:=.string y) (m:=y.size) (news:=u8Xs y.data.toList) hut hs2.und (slOrStr_ok (by rw [hs2.kind];exact hku)) hs3.info hs3.zero
    (by rw [hs3.size,hsz]) hz3 (fun _=>rfl) (fun w'' _=>by
      have e1:(y.extract 0 y.size)=y:=ByteArray.extract_zero_size
      simp only [Builtin.firstCells,Sem.run_pure,e1]
      congr 1
      apply Array.ext'
      simp [u8Xs]) hnl
    (fun v hv=>by obtain ⟨c,_,rfl⟩:=List.mem_map.1 hv;rfl) (by simp only [maxLen];exact hmax) (by rw [hs3.bytes];exact hby)
  refine ⟨.a (.v (.slice ao' (E.n+y.size) cap')),σ,hp,_,nh,w',β,?_,ha,hb.put (x:=.a (.v (.slice ao' (E.n+y.size) cap'))) trivial d,hw',hk ao' cap' hc'⟩
  exact appendOf_run hop (by rw [hse,hxe];exact hrun)
end
theorem run_compl8 (c:UInt8) (w:World) (P:Program):(Op.unary .xor (.int .u8 (c.toNat:Int))).run P w=.ok (.int .u8 ((255 - c).toNat:Int)) w:=by
  have h:∀ n:Fin 256,IntKind.u8.wrap ((BitVec.ofInt 8 255 ^^^ BitVec.ofInt 8 (n.val:Int)).toNat:Int)=((255 - UInt8.ofNat n.val).toNat:Int):=by decide +kernel
  have h2:=h ⟨c.toNat,c.toNat_lt⟩
  have e:UInt8.ofNat c.toNat=c:=by simp
  rw [e] at h2
  show (Op.intBits .xor .u8 255 (c.toNat:Int)).run P w=_
  have h3:(Op.intBits .xor .u8 255 (c.toNat:Int)).run P w=.ok (.int .u8 (IntKind.u8.wrap ((BitVec.ofInt 8 255 ^^^ BitVec.ofInt 8 (c.toNat:Int)).toNat:Int))) w:=rfl
  rw [h3,h2]
section
variable {cf:Cf} {Q:Exit->Act->World->Prop} {σ:Snap} {env:Env} {hp:HP} {A:List AE} {nh:Nat} {it:Item} {rest:List Item}
theorem oj_compl8 {d:Nat} {x:Operand} {t:TypeId} {c:UInt8} (hop:it.o.op=.unOp .xor t x) (hd:it.o.dst=some d) (hg:guardVal it.guard env=some true) (hN:Nat.blt d cf.N=true)
    (hx:evalO env x=some (.a (.v (.int .u8 (c.toNat:Int))))) (hk:OJ cf rest Q σ ((d,.a (.v (.int .u8 ((255 - c).toNat:Int))))::env) hp A nh):OJ cf (it::rest) Q σ env hp A nh:=by
  refine oj_val (.a (.v (.int .u8 ((255 - c).toNat:Int)))) hd hg hN trivial (fun _ a β ha w=>?_) hk
  have h1:a.eval x=.int .u8 (c.toNat:Int):=evalO_eval ha hx
  simp only [execOp,hop,h1,run_compl8,Sem.run_bind,Sem.run_pure,Result.andThen_ok]
  rfl
def maxOf:Op->Option (Operand×Operand)
  | .call c =>
    match c.callee,c.args.toList with
    | .builtin .max,[s,x]=>some (s,x)
    | _,_=>none
  | _=>none
theorem maxOf_run {o:Oper} {s x:Operand} (h:maxOf o.op=some (s,x)) {P:Program} {a:Act} {w w':World} {v:Value}
    (hr:∀ ts ty,(Builtin.max_ ts ty #[a.eval s,a.eval x]).run P w=.ok v w'):(execOp a.eval o).run P w=.ok (.value v) w':=by
  unfold maxOf at h
  split at h
  · rename_i c hop
    split at h
    · rename_i s' x' hcal hargs
      injection h with h
      simp only [Prod.mk.injEq] at h
      obtain ⟨rfl,rfl⟩:=h
      have e1:c.args=#[s',x']:=by
        cases hq:c.args with
        | mk l=>rw [hq] at hargs;simp only at hargs;rw [hargs]
      simp only [execOp,hop,resolve,hcal,e1,invoke,builtin,Sem.run_bind,Sem.run_pure,Result.andThen_ok,List.map_toArray,List.map_cons,List.map_nil,hr]
    · cases h
  · cases h
theorem oj_max {d:Nat} {x y:Operand} {k:IntKind} {m n:Int} (hop:maxOf it.o.op=some (x,y)) (hd:it.o.dst=some d) (hg:guardVal it.guard env=some true) (hN:Nat.blt d cf.N=true)
    (hx:evalO env x=some (.a (.v (.int k m)))) (hy:evalO env y=some (.a (.v (.int k n)))) (hk:OJ cf rest Q σ ((d,.a (.v (.int k (max m n))))::env) hp A nh):OJ cf (it::rest) Q σ env hp A nh:=by
  refine oj_val (.a (.v (.int k (max m n)))) hd hg hN trivial (fun _ a β ha w=>?_) hk
  have h1:a.eval x=.int k m:=evalO_eval ha hx
  have h2:a.eval y=.int k n:=evalO_eval ha hy
  refine maxOf_run hop fun ts ty=>?_
  rw [h1,h2]
  simp only [Builtin.max_,List.foldlM,Builtin.max2,Sem.run_bind,Sem.run_pure,Result.andThen_ok]
  have e:(if n > m then n else m)=max m n:=by split<;>omega
  rw [e]
  rfl
end
section
variable {cf:Cf} {Q:Exit->Act->World->Prop} {σ σb:Snap} {env:Env} {hp hpb:HP} {A:List AE} {nh nb cnt:Nat} {ops:Array Oper} {U bef:List Nat} {listed:Array Bool}
theorem gb_step {j d:Nat} {o:Oper} (hj:ops[j]?=some o) (hd:o.dst=some d) (hg:guardVal (slotOf ops o) env=some true) (hN:Nat.blt d cf.N=true)
    (h:Bd env hp nh->∀ a β,StA cf env β a->∀ w,StW cf σ hp A β w->∃ (y:SV) (A':List AE) (w':World),(execOp a.eval o).run cf.P w=.ok (.value (y.den β)) w'/\y.lt 0/\StW cf σ hp A' β w'/\GB cf ops U (bef++[j]) σb hpb nb cnt (listed.setIfInBounds j true) Q σ ((d,y)::env) hp A' nh) :
    GBK cf ops U bef σb hpb nb cnt listed j Q σ env hp A nh:=by
  refine ⟨fun hs hb hbb hnb hle hsub a β ha hex hex0 hcl hr=>?_⟩
  obtain ⟨w0,hw0⟩:=id hex0
  have hN':d<cf.N:=by simpa [Nat.blt_eq] using hN
  have hwant:Region.wanted o (yielded ops a.tmps)=true:=by rw [<-wantedS_slotOf];exact guardVal_ok ha hg
  unfold stepC
  simp only [hj]
  rw [if_pos hwant]
  intro w hw
  obtain ⟨y,A',w',hrun,hy,hw',hk⟩:=h hb a β ha w hw
  unfold Oper.wq
  rw [hrun]
  refine ⟨_,_,hw',fun x hx=>hw0.base hle hsub hx,.inl fun _ h=>h,?_⟩
  rw [hd]
  exact hk.run hs (hb.put (SV.lt_mono (Nat.zero_le _) hy) d) hbb hnb hle hsub (a.put (some d) (y.den β)) β (ha.put hN' y) ⟨_,hw'⟩ ⟨w0,hw0⟩ (hcl.set hr)
theorem gb_append_lit {q d:Nat} {o:Oper} {s x:Operand} {t u e:Nat} {T:List (Nat×TI)} (hT:TTok cf.P T) {ti tu te:TI} (i:Nat) {E:AE} {ao:Option Addr} {n cap j m:Nat} {k:HK} {cs:List AT}
    (hj:ops[q]?=some o) (hop:appendOf o.op=some (s,x,t,u)) (hd:o.dst=some d) (hg:guardVal (slotOf ops o) env=some true) (hN:Nat.blt d cf.N=true)
    (hs:evalO env s=some (.a (.v (.slice ao n cap)))) (hx:evalO env x=some (.a (.sl j m))) (hrow:hp.get j=some (k,cs)) (hA:A[i]?=some E) (hE:(E.ao,E.n,E.cap,E.e)=(ao,n,cap,e))
    (ht:tget T t=some ti) (hkt:ti.kind=.slice e) (hu:tget T u=some tu) (hku:slOrStr tu.kind=true) (hte:tget T e=some te) (hsz:E.sz=te.size) (hzl:te.zero.length=te.size) (hcs:cs.length=m*te.size)
    (hclo:∀ c∈cs,c.lt 0) (hone:cs.all AT.one=true) (hmax:n+m<=9223372036854775807) (hby:(n+m)*te.bytes<=140737488355328)
    (hk:∀ ao' cap',n+m<=cap'->GB cf ops U (bef++[q]) σb hpb nb cnt (listed.setIfInBounds q true) Q σ ((d,.a (.v (.slice ao' (n+m) cap')))::env) hp (A.set i ⟨ao',n+m,cap',E.e,E.sz,E.xs++cs.map AT.val⟩) nh):GBK cf ops U bef σb hpb nb cnt listed q Q σ env hp A nh:=by
  simp only [Prod.mk.injEq] at hE
  obtain ⟨rfl,rfl,rfl,rfl⟩:=hE
  refine gb_step hj hd hg hN fun hb a β ha w hw=>?_
  obtain ⟨i1,d1,z1,hs1⟩:=tiOf_spec (hT _ _ ht)
  obtain ⟨i2,d2,z2,hs2⟩:=tiOf_spec (hT _ _ hu)
  obtain ⟨i3,d3,z3,hs3⟩:=tiOf_spec (hT _ _ hte)
  have hut:cf.P.underlying t=some (.slice E.e):=by
    have h1:=hs1.kind
    rw [hkt] at h1
    have h2:=hs1.und
    cases d1<;>first
      | (simp only [kindD,TK.slice.injEq] at h1;subst h1;exact h2)
      | (simp only [kindD] at h1;cases h1)
  have hz3:z3.cells.size=E.sz:=by
    have:=zero_den hs3 β
    rw [<-this,hsz]
    simp [hzl]
  have hcells:∀ j' v,(cs.map AT.val)[j']?=some v->w.cell? ((β j).add j')=some v:=by
    intro j' v hv
    rw [List.getElem?_map] at hv
    obtain ⟨c,hc,rfl⟩:=map_some hv
    rw [<-AT.den_val (hclo c (List.mem_of_getElem? hc)) β]
    exact hw.cell hrow hc
  have hnl:(cs.map AT.val).length=m*E.sz:=by rw [List.length_map,hcs,hsz]
  have hxe:a.eval x=.slice (some (β j)) m m:=evalO_eval ha hx
  have hse:a.eval s=.slice E.ao E.n E.cap:=evalO_eval ha hs
  obtain ⟨ao',cap',w',hrun,hw',hc'⟩:=hw.append hA (t:=t) (u:=u) (ty:=o.type) (x:=.slice (some (β j)) m m) (m:=m) (news:=cs.map AT.val) hut hs2.und (slOrStr_ok (by rw [hs2.kind];exact hku)) hs3.info hs3.zero
    (by rw [hs3.size,hsz]) hz3 (fun _=>rfl) (fun w'' hh=>run_firstCells_some (P:=cf.P) w'' E.sz m (β j) m m _ hnl fun j' v hv=>by
      have:=hcells j' v hv
      rw [World.cell?,hh];exact this) hnl
    (fun v hv=>by obtain ⟨c,hc,rfl⟩:=List.mem_map.1 hv;exact AT.one_den β0 (List.all_eq_true.1 hone c hc)) (by simp only [maxLen];exact hmax) (by rw [hs3.bytes];exact hby)
  refine ⟨.a (.v (.slice ao' (E.n+m) cap')),_,w',?_,trivial,hw',hk ao' cap' hc'⟩
  exact appendOf_run hop (by rw [hse,hxe];exact hrun)
end
end Go.Sy
namespace Go.Sy
open Go.Proofs
def paCells (p:GPart):List AT:=[.v (.int .i64 p.kd),.b p.b,.b p.n.neg,.v (.string p.n.dg),.v (.int .i64 p.n.ex),.v (.string p.s),.v (.int .i64 p.i)]
theorem paCells_lt (n:Nat) (p:GPart):∀ c∈paCells p,c.lt n:=by simp [paCells,AT.lt]
def paRows (l:List GPart):List (List AT):=l.map paCells
theorem paRows_get {l:List GPart} {i:Nat} {x:GPart} (h:l[i]?=some x):(paRows l)[i]?=some (paCells x):=by unfold paRows;rw [List.getElem?_map,h];rfl
theorem paRows_all (l:List GPart):∀ r∈paRows l,r.length=7/\(∀ c∈r,c.lt 0)/\r.all AT.one=true:=by
  intro r hr
  obtain ⟨x,_,rfl⟩:=List.mem_map.1 hr
  exact ⟨rfl,paCells_lt 0 x,rfl⟩
def paXs (l:List GPart):List Value:=(paRows l).flatten.map AT.val
theorem paXs_append (a b:List GPart):paXs (a++b)=paXs a++paXs b:=by simp [paXs,paRows]
def paVals (p:GPart):Array Value:=#[.int .i64 p.kd,.bool p.b,.bool p.n.neg,.string p.n.dg,.int .i64 p.n.ex,.string p.s,.int .i64 p.i]
theorem run_partB {P:Program} {w:World} {t:TypeId} {xs:Array Value} {o n:Nat} {d:TypeDesc} (hu:P.underlying t=some d) (hd:aggD d=true) (hn:P.cellsOf t=n):(part t xs o).run P w=.ok (.agg (xs.extract o (o+n))) w:=by
  simp only [part,Sem.run_bind,run_isAgg hu,hd,Result.andThen_ok,if_true,run_sizeB hn hu,Sem.run_pure]
structure PartT (t:Nat):Prop where
  und:Tryd.prog.underlying t=some (.struct (Tryd.prog.fieldsOf t))
  held:Tryd.prog.stoodInHeld t=false
  grd:Tryd.prog.eqGuardType Tryd.prog.depth t=false
  fs:fieldsAre (Tryd.prog.fieldsOf t).toList [(3,0),(4,1),(40,2),(9,5),(3,6)]=true
theorem und23c:Tryd.prog.cellsOf 40=3:=by kernel_rfl
theorem eqPart_ok {t:Nat} (ht:PartT t) (m:Nat) (a b:GPart) (w:World):(Op.equalIn (m+1+1+1) t (.agg (paVals a)) (.agg (paVals b))).run Tryd.prog w=.ok (decide (a=b)) w:=by
  rw [run_equalIn_agg w (m+1+1) t _ _ ht.und ht.held]
  have h:=ht.fs
  generalize (Tryd.prog.fieldsOf t).toList=fl at h
  obtain ⟨f0,fl,rfl,n0,t0,o0,h⟩:=fieldsAre_cons h
  obtain ⟨f1,fl,rfl,n1,t1,o1,h⟩:=fieldsAre_cons h
  obtain ⟨f2,fl,rfl,n2,t2,o2,h⟩:=fieldsAre_cons h
  obtain ⟨f3,fl,rfl,n3,t3,o3,h⟩:=fieldsAre_cons h
  obtain ⟨f4,fl,rfl,n4,t4,o4,h⟩:=fieldsAre_cons h
  cases fl with
  | cons _ _=>cases h
  | nil =>
    have ii:∀ (f:Field) (o:Nat) (r:GPart) (x:Int),f.type=3->f.offset=o->(paVals r)[o]?=some (.int .i64 x)->(part f.type (paVals r) f.offset).run Tryd.prog w=.ok (.int .i64 x) w:=fun f o r x ht ho hx=>run_part1 (by rw [ht];exact und3) rfl (by rw [ho];exact hx)
    have bb:∀ (f:Field) (o:Nat) (r:GPart) (x:Bool),f.type=4->f.offset=o->(paVals r)[o]?=some (.bool x)->(part f.type (paVals r) f.offset).run Tryd.prog w=.ok (.bool x) w:=fun f o r x ht ho hx=>run_part1 (by rw [ht];exact und4) rfl (by rw [ho];exact hx)
    have ss:∀ (f:Field) (o:Nat) (r:GPart) (x:ByteArray),f.type=9->f.offset=o->(paVals r)[o]?=some (.string x)->(part f.type (paVals r) f.offset).run Tryd.prog w=.ok (.string x) w:=fun f o r x ht ho hx=>run_part1 (by rw [ht];exact und9) rfl (by rw [ho];exact hx)
    have dd:∀ (r:GPart),(part f2.type (paVals r) f2.offset).run Tryd.prog w=.ok (.agg #[.bool r.n.neg,.string r.n.dg,.int .i64 r.n.ex]) w:=fun r=>by
      rw [run_partB (n:=3) (by rw [t2];exact und23) rfl (by rw [t2];exact und23c),o2]
      rfl
    rw [eqFields_cons (r:=a.kd == b.kd) n0 (ii f0 0 a _ t0 o0 rfl) (ii f0 0 b _ t0 o0 rfl) (run_equalIn_int w (m+1) f0.type .i64 .i64 a.kd b.kd (by rw [t0];exact und3))]
    rw [eqFields_cons (r:=a.b == b.b) n1 (bb f1 1 a _ t1 o1 rfl) (bb f1 1 b _ t1 o1 rfl) (run_equalIn_bool' w (m+1) f1.type a.b b.b (by rw [t1];exact und4))]
    rw [eqFields_cons (r:=decide (a.n=b.n)) n2 (dd a) (dd b) (by rw [t2];exact eqDec_ok m a.n b.n w)]
    rw [eqFields_cons (r:=decide (a.s=b.s)) n3 (ss f3 5 a _ t3 o3 rfl) (ss f3 5 b _ t3 o3 rfl) (run_eqStr (m+1) f3.type a.s b.s (by rw [t3];exact und9))]
    rw [eqFields_cons (r:=a.i == b.i) n4 (ii f4 6 a _ t4 o4 rfl) (ii f4 6 b _ t4 o4 rfl) (run_equalIn_int w (m+1) f4.type .i64 .i64 a.i b.i (by rw [t4];exact und3))]
    simp only [Op.eqFields,Sem.run_pure]
    have:(decide (a=b))=(a.kd == b.kd&&(a.b == b.b&&(decide (a.n=b.n)&&(decide (a.s=b.s)&&a.i == b.i)))):=by
      rw [Bool.eq_iff_iff]
      cases a;cases b
      simp
    rw [this]
    cases (a.kd == b.kd)<;>cases (a.b == b.b)<;>cases decide (a.n=b.n)<;>cases decide (a.s=b.s)<;>cases (a.i == b.i)<;>rfl
section
variable {cf:Cf} {Q:Exit->Act->World->Prop} {σ:Snap} {env:Env} {hp:HP} {A:List AE} {nh:Nat} {it:Item} {rest:List Item}
theorem oj_eqPart {t:Nat} (ht:PartT t) {d:Nat} {x y:Operand} {yt:TypeId} {ca cb:List AT} (a b:GPart) (hP:cf.P=Tryd.prog)
    (hop:it.o.op=.binOp .eql t x y yt) (hd:it.o.dst=some d) (hg:guardVal it.guard env=some true) (hN:Nat.blt d cf.N=true) (hx:evalO env x=some (.agg ca)) (hy:evalO env y=some (.agg cb))
    (hca:∀ β,ca.map (AT.den β)=(paCells a).map (AT.den β)) (hcb:∀ β,cb.map (AT.den β)=(paCells b).map (AT.den β))
    (hk:OJ cf rest Q σ ((d,.a (.b (decide (a=b))))::env) hp A nh):OJ cf (it::rest) Q σ env hp A nh:=by
  refine oj_val (.a (.b (decide (a=b)))) hd hg hN trivial (fun _ ac β ha w=>?_) hk
  have h1:ac.eval x=.agg (paVals a):=(evalO_eval ha hx).trans (by simp only [SV.den,hca];rfl)
  have h2:ac.eval y=.agg (paVals b):=(evalO_eval ha hy).trans (by simp only [SV.den,hcb];rfl)
  rw [hP]
  have hG:(eqGuard .eql t x y (.agg (paVals a)) (.agg (paVals b))).run Tryd.prog w=.ok () w:=run_eqGuard_agg w _ _ _ _ _ _ ht.grd
  have hE:(Op.equalIn 10000 t (.agg (paVals a)) (.agg (paVals b))).run Tryd.prog w=.ok (decide (a=b)) w:=eqPart_ok ht 9997 a b w
  have hB:(binOp .eql t (.agg (paVals a)) (.agg (paVals b))).run Tryd.prog w=.ok (.bool (decide (a=b))) w:=by
    rw [run_eql_struct,hE]
    rfl
  simp only [execOp,hop,h1,h2,Sem.run_bind,hG,hB,Result.andThen_ok,Sem.run_pure]
  rfl
theorem oj_nePart {t:Nat} (ht:PartT t) {d:Nat} {x y:Operand} {yt:TypeId} {ca cb:List AT} (a b:GPart) (hP:cf.P=Tryd.prog)
    (hop:it.o.op=.binOp .neq t x y yt) (hd:it.o.dst=some d) (hg:guardVal it.guard env=some true) (hN:Nat.blt d cf.N=true) (hx:evalO env x=some (.agg ca)) (hy:evalO env y=some (.agg cb))
    (hca:∀ β,ca.map (AT.den β)=(paCells a).map (AT.den β)) (hcb:∀ β,cb.map (AT.den β)=(paCells b).map (AT.den β))
    (hk:OJ cf rest Q σ ((d,.a (.b (!decide (a=b))))::env) hp A nh):OJ cf (it::rest) Q σ env hp A nh:=by
  refine oj_val (.a (.b (!decide (a=b)))) hd hg hN trivial (fun _ ac β ha w=>?_) hk
  have h1:ac.eval x=.agg (paVals a):=(evalO_eval ha hx).trans (by simp only [SV.den,hca];rfl)
  have h2:ac.eval y=.agg (paVals b):=(evalO_eval ha hy).trans (by simp only [SV.den,hcb];rfl)
  rw [hP]
  have hG:(eqGuard .neq t x y (.agg (paVals a)) (.agg (paVals b))).run Tryd.prog w=.ok () w:=run_eqGuard_agg w _ _ _ _ _ _ ht.grd
  have hE:(Op.equalIn 10000 t (.agg (paVals a)) (.agg (paVals b))).run Tryd.prog w=.ok (decide (a=b)) w:=eqPart_ok ht 9997 a b w
  have hB:(binOp .neq t (.agg (paVals a)) (.agg (paVals b))).run Tryd.prog w=.ok (.bool (!decide (a=b))) w:=by
    rw [run_neq_struct,hE]
    rfl
  simp only [execOp,hop,h1,h2,Sem.run_bind,hG,hB,Result.andThen_ok,Sem.run_pure]
  rfl
end
theorem partT49:PartT 49:=⟨by kernel_rfl,by kernel_rfl,by kernel_rfl,by kernel_rfl⟩
set_option maxRecDepth 100000 in
set_option maxHeartbeats 2000000 in
theorem right_c (σ:Snap) (p:GPart) (hd:p.n.dg.size<=mostLen):PlainS Tryd.prog 25 [.agg (paCells p)] σ (fun v=>v=.bool (rightG p)):=by
  obtain ⟨kd,b,n,s,i⟩:=p
  refine enter_p Tryd.func25 rfl rfl ⟨paCells_lt 0 _,trivial⟩ fun w=>?_
  (repeat (first | refine cj_seq ?_ | refine cjr TT rfl ?_ | refine oj_then ?_ | refine cj_block ?_))
  refine cj_if rfl (fun h=>?_) (fun h0=>?_)
  · have h:=of_decide_eq_true (show decide (kd=0)=true from h)
    (repeat (first | refine cj_seq ?_ | refine cjr TT rfl ?_ | refine cj_skip ?_ | refine nj_then ?_ | refine nj_block ?_))
    refine oj_eqPart partT49 ⟨0,b,n,s,i⟩ part0 rfl rfl rfl rfl rfl rfl rfl (fun _=>rfl) (fun _=>rfl) (oj_run TT rfl ?_)
    (repeat (first | refine oj_then ?_ | refine cj_ret ?_))
    refine nj_ret TT rfl fun β w' _ _=>?_
    subst h
    rfl
  have h0:=of_decide_eq_false (show decide (kd=0)=false from h0)
  (repeat (first | refine cj_seq ?_ | refine cjr TT rfl ?_ | refine oj_then ?_))
  refine cj_if rfl (fun h=>?_) (fun h1=>?_)
  · have h:=of_decide_eq_true (show decide (kd=1)=true from h)
    (repeat (first | refine cj_seq ?_ | refine cjr TT rfl ?_ | refine oj_nil ?_ | refine nj_then ?_ | refine nj_block ?_))
    refine oj_eqPart partT49 ⟨0,false,n,s,i⟩ part0 rfl rfl rfl rfl rfl rfl rfl (fun _=>rfl) (fun _=>rfl) (oj_run TT rfl ?_)
    (repeat (first | refine oj_then ?_ | refine cj_ret ?_))
    refine nj_ret TT rfl fun β w' _ _=>?_
    subst h
    rfl
  have h1:=of_decide_eq_false (show decide (kd=1)=false from h1)
  (repeat (first | refine cj_seq ?_ | refine cjr TT rfl ?_ | refine oj_then ?_))
  refine cj_if rfl (fun h=>?_) (fun h2=>?_)
  · have h:=of_decide_eq_true (show decide (kd=2)=true from h)
    (repeat (first | refine cj_seq ?_ | refine cjr TT rfl ?_ | refine oj_then ?_))
    refine oj_eqPart partT49 ⟨0,b,dec0,s,i⟩ part0 rfl rfl rfl rfl rfl rfl rfl (fun _=>rfl) (fun _=>rfl) (oj_run TT rfl ?_)
    refine oj_split 20 rfl (fun hq=>?_) (fun hq=>?_)
    · have hq:decide ((⟨0,b,dec0,s,i⟩:GPart)=part0)=true:=hq
      refine oj_run TT rfl ?_
      refine oj_callP rfl rfl rfl rfl rfl Tryd.call34 (by (repeat' (first | exact trivial | exact decCells_lt _ _ | constructor))) (decSane_c σ n hd) fun v hv=>⟨.a (.b (decSane n)),trivial,hv.symm,?_⟩
      refine oj_run TT rfl ?_
      (repeat (first | refine oj_then ?_ | refine cj_ret ?_ | refine nj_then_ret ?_ | refine nj_block_ret ?_))
      refine nj_ret TT rfl fun β w' _ _=>?_
      subst h
      show Value.bool (decSane n)=.bool (decide ((⟨0,b,dec0,s,i⟩:GPart)=part0)&&decSane n)
      rw [hq,Bool.true_and]
    · have hq:decide ((⟨0,b,dec0,s,i⟩:GPart)=part0)=false:=hq
      refine oj_run TT rfl ?_
      (repeat (first | refine oj_then ?_ | refine cj_ret ?_ | refine nj_then_ret ?_ | refine nj_block_ret ?_))
      refine nj_ret TT rfl fun β w' _ _=>?_
      subst h
      show Value.bool false=.bool (decide ((⟨0,b,dec0,s,i⟩:GPart)=part0)&&decSane n)
      rw [hq,Bool.false_and]
  have h2:=of_decide_eq_false (show decide (kd=2)=false from h2)
  (repeat (first | refine cj_seq ?_ | refine cjr TT rfl ?_ | refine oj_then ?_))
  refine cj_if rfl (fun h=>?_) (fun h3=>?_)
  · have h:=of_decide_eq_true (show decide (kd=3)=true from h)
    (repeat (first | refine cj_seq ?_ | refine cjr TT rfl ?_ | refine oj_nil ?_ | refine nj_then ?_ | refine nj_block ?_))
    refine oj_eqPart partT49 ⟨0,b,n,emptyB,i⟩ part0 rfl rfl rfl rfl rfl rfl rfl (fun _=>rfl) (fun _=>rfl) (oj_run TT rfl ?_)
    (repeat (first | refine oj_then ?_ | refine cj_ret ?_))
    refine nj_ret TT rfl fun β w' _ _=>?_
    subst h
    rfl
  have h3:=of_decide_eq_false (show decide (kd=3)=false from h3)
  (repeat (first | refine cj_seq ?_ | refine cjr TT rfl ?_ | refine oj_then ?_))
  refine cj_if rfl (fun h=>?_) (fun h9=>?_)
  · have h:=of_decide_eq_true (show decide (kd=9)=true from h)
    (repeat (first | refine cj_seq ?_ | refine cjr TT rfl ?_ | refine oj_then ?_))
    refine oj_eqPart partT49 ⟨0,b,n,s,0⟩ part0 rfl rfl rfl rfl rfl rfl rfl (fun _=>rfl) (fun _=>rfl) (oj_run TT rfl ?_)
    refine oj_split 34 rfl (fun hq=>?_) (fun hq=>?_)
    · have hq:decide ((⟨0,b,n,s,0⟩:GPart)=part0)=true:=hq
      refine oj_run TT rfl ?_
      refine oj_split 39 rfl (fun hi=>?_) (fun hi=>?_)
      · have hi:decide (0<=i)=true:=hi
        refine oj_run TT rfl ?_
        (repeat (first | refine oj_then ?_ | refine cj_ret ?_ | refine nj_then_ret ?_ | refine nj_block_ret ?_))
        refine nj_ret TT rfl fun β w' _ _=>?_
        subst h
        show Value.bool (decide (i<=4294967295))=.bool (decide ((⟨0,b,n,s,0⟩:GPart)=part0)&&decide (0<=i)&&decide (i<=4294967295))
        rw [hq,hi,Bool.true_and,Bool.true_and]
      · have hi:decide (0<=i)=false:=hi
        refine oj_run TT rfl ?_
        (repeat (first | refine oj_then ?_ | refine cj_ret ?_ | refine nj_then_ret ?_ | refine nj_block_ret ?_))
        refine nj_ret TT rfl fun β w' _ _=>?_
        subst h
        show Value.bool false=.bool (decide ((⟨0,b,n,s,0⟩:GPart)=part0)&&decide (0<=i)&&decide (i<=4294967295))
        rw [hi,Bool.and_false,Bool.false_and]
    · have hq:decide ((⟨0,b,n,s,0⟩:GPart)=part0)=false:=hq
      refine oj_run TT rfl ?_
      (repeat (first | refine oj_then ?_ | refine cj_ret ?_ | refine nj_then_ret ?_ | refine nj_block_ret ?_))
      refine nj_ret TT rfl fun β w' _ _=>?_
      subst h
      show Value.bool false=.bool (decide ((⟨0,b,n,s,0⟩:GPart)=part0)&&decide (0<=i)&&decide (i<=4294967295))
      rw [hq,Bool.false_and,Bool.false_and]
  have h9:=of_decide_eq_false (show decide (kd=9)=false from h9)
  (repeat (first | refine cj_seq ?_ | refine cjr TT rfl ?_ | refine oj_then ?_ | refine cj_ret ?_ | refine nj_then_ret ?_ | refine nj_block_ret ?_))
  refine nj_ret TT rfl fun β w' _ _=>?_
  unfold rightG
  dsimp only
  rw [if_neg h0,if_neg h1,if_neg h2,if_neg h3,if_neg h9]
  rfl
end Go.Sy
