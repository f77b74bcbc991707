/- Parts of the proof of CStreamsValues: H6, H3, H4, H7, F34, H8, H13, S1, S2. No conditions. -/
import Derived.Test.YtlonlnagmfdlbaaGreatDoorM8
namespace Go.Sy
open Go.Proofs
structure GIx where
  ds:List GDoc
  o:Option Addr
  c:Nat
  xs:List GLine
  go:Option Addr
  gc:Nat
  next:Int
  lo:Option Addr
  lc:Nat
def ixCells (X:GIx):List AT:=[.v (.slice X.o X.ds.length X.c),.v (.slice X.go X.xs.length X.gc),.v (.int .i64 X.next),.v (.slice X.lo X.ds.length X.lc)]
theorem ixCells_lt (n:Nat) (X:GIx):∀ c∈ixCells X,c.lt n:=by simp [ixCells,AT.lt]
structure IxAt (σ:Snap) (X:GIx):Prop where
  docs:SlAt σ X.o X.ds.length X.c 2 (doRows X.ds)
  lines:SlAt σ X.lo X.ds.length X.lc 1 (liRows X.ds)
  gl:SlAt σ X.go X.xs.length X.gc 3 (lnRows X.xs)
  ok:∀ x∈X.xs,LnOk σ x
  doc:∀ d∈X.ds,SlAt σ d.o d.L.length d.cap 11 (recRows d.L)/\SlAt σ d.lo d.ids.length d.lcap 1 (idRows d.ids)
theorem IxAt.mono {σ σ':Snap} {X:GIx} (h:IxAt σ X) (hle:σ.le σ'):IxAt σ' X :=
  ⟨h.docs.mono hle,h.lines.mono hle,h.gl.mono hle,fun x hx=>(h.ok x hx).mono hle,fun d hd=>⟨(h.doc d hd).1.mono hle,(h.doc d hd).2.mono hle⟩⟩
def ix0:GIx:=⟨[],none,0,[],none,0,0,none,0⟩
theorem ix0_at (σ:Snap):IxAt σ ix0:=⟨SlAt.nil σ none 0 2,SlAt.nil σ none 0 1,SlAt.nil σ none 0 3,fun _ h=>(by cases h),fun _ h=>(by cases h)⟩
set_option maxRecDepth 100000 in
set_option maxHeartbeats 1000000 in
theorem New_c (σ:Snap):PlainS Tryz.prog 38 [] σ (fun v=>v=(SV.agg (ixCells ix0)).den β0):=by
  refine enter_p Tryz.func38 rfl rfl (by (repeat' exact trivial)) fun w=>?_
  (repeat (first | refine cj_seq ?_ | refine cjr TT rfl ?_ | refine oj_then ?_ | refine cj_ret ?_))
  refine nj_ret TT rfl fun β w' _ _=>?_
  rfl
set_option maxRecDepth 100000 in
set_option maxHeartbeats 1000000 in
theorem place_c (σ:Snap) (X:GIx) (IX:SlAt σ X.o X.ds.length X.c 2 (doRows X.ds)) (hl:X.ds.length<=1000000) (ho:X.ds.Pairwise fun x y=>x.id<y.id) (id:Int) :
    PlainS Tryz.prog 102 [.agg (ixCells X),.a (.v (.int .i64 id))] σ (fun v=>∃ p:Nat,v=.tuple #[.int .i64 p,.bool (isAt X.ds id p)]/\PlaceAt X.ds id p):=by
  refine enter_p Tryz.func102 rfl rfl ⟨ixCells_lt 0 X,trivial,trivial⟩ fun w=>?_
  (repeat (first | refine cj_seq ?_ | refine cjr TT rfl ?_ | refine oj_then ?_))
  refine oj_callP rfl rfl rfl rfl rfl Tryz.call166 (by (repeat' (first | exact trivial | exact SV.lt_fn0 | constructor))) (BinSearch_c σ X.ds hl ho X.o X.c IX id) fun v ⟨p,hv,hp⟩=>⟨.tup [.a (.v (.int .i64 p)),.a (.b (isAt X.ds id p))],(by (repeat' (first | exact trivial | refine SV.lt_tup ?_ | constructor))),hv.symm,?_⟩
  refine oj_run TT rfl ?_
  (repeat (first | refine oj_then ?_ | refine cj_ret ?_))
  refine nj_ret TT rfl fun β w' _ _=>?_
  exact ⟨p,rfl,hp⟩
structure AdR where
  σ:Snap
  ps:List SRow
  bo:Option Addr
  bc:Nat
  io:Option Addr
  ic:Nat
set_option maxRecDepth 100000 in
set_option maxHeartbeats 8000000 in
theorem IxAdd_x (σ:Snap) (X:GIx) (IX:IxAt σ X) (hP:IdxP X.ds X.xs X.next) (id:Int) (L:List GRec) (R:RecsOk L) (hL:L.length<=100000) (hs:soundG L=true) (hlev:levelsOk 0 L) (ao:Option Addr) (cap:Nat) (H:SlAt σ ao L.length cap 11 (recRows L))
    (hid:∀ d∈X.ds,d.id<id) (hds:X.ds.length<=1000) (m:Nat) (hfit:GFit m ⟨X.xs,X.next,[]⟩) (hm:m+L.length<=1000000) :
    PureS Tryz.prog 40 [.agg (ixCells X),.agg [.v (.int .i64 id),.v (.slice ao L.length cap)]] σ (fun v σ'=>∃ X':GIx,v=(SV.tup [.agg (ixCells X'),.a (.v (.int .i64 0))]).den β0/\IxAt σ' X'/\IdxP X'.ds X'.xs X'.next /\
      (∃ lo lc ids,X'.ds=X.ds++[⟨id,ao,cap,L,lo,lc,ids⟩])/\GFit (m+L.length) ⟨X'.xs,X'.next,[]⟩/\∃ lo lc ps,ps.map SRow.ss=pathsG L/\X'.ds=X.ds++[⟨id,ao,cap,L,lo,lc,(addAll ⟨X.xs,X.next,[]⟩ ps).ids⟩]/\X'.xs=(addAll ⟨X.xs,X.next,[]⟩ ps).xs/\X'.next=(addAll ⟨X.xs,X.next,[]⟩ ps).next):=by
  refine enter_s Tryz.func40 rfl rfl ⟨ixCells_lt 0 X,(by (repeat' (first | exact trivial | refine AllLt.of ?_ | constructor))),trivial⟩ fun w=>?_
  (repeat (first | refine cj_seq ?_ | refine cjr TT rfl ?_ | refine oj_then ?_))
  refine oj_callP rfl rfl rfl rfl rfl Tryz.call105 (by (repeat' (first | exact trivial | constructor))) (Sound_c σ L R.len R.fit R.bw ao cap H) fun v hv=>⟨.a .tt,trivial,by rw [hv,hs];rfl,?_⟩
  refine oj_run TT rfl ?_
  (repeat (first | refine cj_seq ?_ | refine cjr TT rfl ?_ | refine oj_then ?_ | refine cj_if_f rfl ?_ | refine cj_skip ?_ | refine nj_then ?_))
  refine oj_set 16 (.agg (ixCells X)) rfl (ixCells_lt _ _) (fun _=>rfl) ?_
  refine oj_callP rfl rfl rfl rfl rfl Tryz.call102 (by (repeat' (first | exact trivial | refine AllLt.of ?_ | constructor))) (place_c σ X IX.docs (by omega) hP.ord id) fun v ⟨p,hv,hp⟩=>⟨.tup [.a (.v (.int .i64 X.ds.length)),.a .ff],(by (repeat' (first | exact trivial | refine SV.lt_tup ?_ | constructor))),?_,?_⟩
  · have hpe:p=X.ds.length:=by
      have h1:=hp.le
      rcases Nat.lt_or_ge p X.ds.length with h | h
      · have h2:=hp.hi p _ (Nat.le_refl _) (List.getElem?_eq_getElem h)
        have h3:=hid _ (List.getElem_mem h)
        omega
      · omega
    subst hpe
    rw [hv]
    have:isAt X.ds id X.ds.length=false:=by
      unfold isAt
      rw [List.getElem?_eq_none (Nat.le_refl _)]
    rw [this]
    rfl
  refine oj_run TT rfl ?_
  (repeat (first | refine cj_seq ?_ | refine cjr TT rfl ?_ | refine oj_then ?_ | refine cj_if_f rfl ?_ | refine cj_skip ?_ | refine nj_then ?_))
  have hpl:∀ {ps:List SRow},ps.map SRow.ss=pathsG L->ps.length=L.length:=fun {ps} h=>by
    have h2:=congrArg List.length h
    rw [List.length_map] at h2
    rw [h2]
    exact pathsF_len _ _
  refine cj_cutN (fun (t:AdR)=>t.σ) (fun t=>[(2,.a (.p 0 0)),(3,.a (.p 1 0)),(4,.a (.p 2 0)),(6,.a (.v (.int .i64 X.ds.length))),(8,.a (.p 3 0)),(9,.a (.v (.slice t.io (addAll ⟨X.xs,X.next,[]⟩ t.ps).ids.length t.ic)))])
    (fun t=>[(0,.loc 60,ixCells X),(1,.loc 90,[.v (.int .i64 id),.v (.slice ao L.length cap)]),(2,.loc 60,[.v (.slice none 0 0),.v (.slice none 0 0),.v (.int .i64 0),.v (.slice none 0 0)]),(3,.loc 57,[.v (.slice t.bo (addAll ⟨X.xs,X.next,[]⟩ t.ps).xs.length t.bc),.v (.int .i64 (addAll ⟨X.xs,X.next,[]⟩ t.ps).next)])]) (fun _=>[]) 4
    (fun t=>σ.le t.σ/\t.ps.map SRow.ss=pathsG L/\(∀ p∈t.ps,SrOk t.σ p)/\SlAt t.σ t.bo (addAll ⟨X.xs,X.next,[]⟩ t.ps).xs.length t.bc 3 (lnRows (addAll ⟨X.xs,X.next,[]⟩ t.ps).xs)/\SlAt t.σ t.io (addAll ⟨X.xs,X.next,[]⟩ t.ps).ids.length t.ic 1 (idRows (addAll ⟨X.xs,X.next,[]⟩ t.ps).ids)) ?_ (fun t ht=>?_)
  · have hpath:=fun (s:Snap) (hle:σ.le s)=>Paths_c s L R hL hs hlev ao cap (H.mono hle)
    have hadd:=fun (s:Snap) (hle:σ.le s) (ps:List SRow) (hps:ps.map SRow.ss=pathsG L) (hok:∀ p∈ps,SrOk s p) (po:Option Addr) (pc:Nat) (P:SlAt s po ps.length pc 1 (srRows ps)) =>
      Add_c s X.xs X.next X.go X.gc (IX.gl.mono hle) (fun x hx=>(IX.ok x hx).mono hle) ps po pc P hok m hfit (by rw [hpl hps];omega)
    refine cj_drawG 12 [0,2,6,7,8,11] mixed (by kernel_rfl) rfl ?_
    refine gj_val (i:=0) TT rfl (by kernel_rfl) (by kernel_rfl) rfl rfl rfl rfl rfl ?_
    refine gj_val (i:=1) TT rfl (by kernel_rfl) (by kernel_rfl) rfl rfl rfl rfl rfl ?_
    refine gj_val (i:=2) TT rfl (by kernel_rfl) (by kernel_rfl) rfl rfl rfl rfl rfl ?_
    refine gj_val (i:=3) TT rfl (by kernel_rfl) (by kernel_rfl) rfl rfl rfl rfl rfl ?_
    refine gj_two (i:=4) (j:=9) (by kernel_rfl) ?_ ?_
    · refine gk_call rfl rfl rfl rfl rfl Tryz.call107 (by (repeat' (first | exact trivial | constructor))) (hpath σ (Snap.le_refl _)) fun v s1 hle1 ⟨ps,po,pc,hv,P,hok,hps⟩=>⟨.a (.v (.slice po ps.length pc)),trivial,hv.symm,?_⟩
      refine gj_two (i:=5) (j:=9) (by kernel_rfl) ?_ ?_
      · refine gk_call rfl rfl rfl rfl rfl Tryz.call106 (by (repeat' (first | exact trivial | refine AllLt.of ?_ | constructor))) (hadd s1 hle1 ps hps hok po pc P) fun v s2 hle2 ⟨bo,bc,io,ic,hv,HB,HI⟩=>⟨.tup [.agg [.v (.slice bo (addAll ⟨X.xs,X.next,[]⟩ ps).xs.length bc),.v (.int .i64 (addAll ⟨X.xs,X.next,[]⟩ ps).next)],.a (.v (.slice io (addAll ⟨X.xs,X.next,[]⟩ ps).ids.length ic))],(by (repeat' (first | exact trivial | refine AllLt.of ?_ | refine SV.lt_tup ?_ | constructor))),hv.symm,?_⟩
        refine gj_order [(6,.pure),(7,.pure),(8,.pure),(9,.keep),(10,.sink),(11,.pure)] rfl rfl (by kernel_rfl) ?_
        refine oj_run TT rfl ?_
        (repeat refine oj_nil ?_)
        refine nj_again (⟨s2,ps,bo,bc,io,ic⟩:AdR) ⟨Snap.le_trans hle1 hle2,hps,fun p hp=>(hok p hp).mono hle2,HB,HI⟩ Nat.zero_lt_one rfl (by (repeat first | exact trivial | refine ⟨rfl,?_⟩)) (by (repeat first | exact trivial | refine ⟨rfl,?_⟩)) rfl (by (repeat' (first | exact trivial | exact Nat.le_of_ble_eq_true rfl | constructor))) (by (repeat' (first | exact trivial | exact Nat.le_of_ble_eq_true rfl | refine AllLt.of ?_ | constructor)))
      · refine gk_new TT rfl rfl rfl rfl rfl ?_
        refine gj_order [(5,.keep),(6,.pure),(7,.pure),(8,.pure),(10,.sink),(11,.pure)] rfl rfl (by kernel_rfl) ?_
        refine oj_callS rfl rfl rfl rfl rfl Tryz.call106 (by (repeat' (first | exact trivial | refine AllLt.of ?_ | constructor))) (hadd s1 hle1 ps hps hok po pc P) fun v s2 hle2 ⟨bo,bc,io,ic,hv,HB,HI⟩=>⟨.tup [.agg [.v (.slice bo (addAll ⟨X.xs,X.next,[]⟩ ps).xs.length bc),.v (.int .i64 (addAll ⟨X.xs,X.next,[]⟩ ps).next)],.a (.v (.slice io (addAll ⟨X.xs,X.next,[]⟩ ps).ids.length ic))],(by (repeat' (first | exact trivial | refine AllLt.of ?_ | refine SV.lt_tup ?_ | constructor))),hv.symm,?_⟩
        refine oj_run TT rfl ?_
        (repeat refine oj_nil ?_)
        refine nj_again (⟨s2,ps,bo,bc,io,ic⟩:AdR) ⟨Snap.le_trans hle1 hle2,hps,fun p hp=>(hok p hp).mono hle2,HB,HI⟩ Nat.zero_lt_one rfl (by (repeat first | exact trivial | refine ⟨rfl,?_⟩)) (by (repeat first | exact trivial | refine ⟨rfl,?_⟩)) rfl (by (repeat' (first | exact trivial | exact Nat.le_of_ble_eq_true rfl | constructor))) (by (repeat' (first | exact trivial | exact Nat.le_of_ble_eq_true rfl | refine AllLt.of ?_ | constructor)))
    · refine gk_new TT rfl rfl rfl rfl rfl ?_
      refine gj_order [(4,.keep),(5,.keep),(6,.pure),(7,.pure),(8,.pure),(10,.sink),(11,.pure)] rfl rfl (by kernel_rfl) ?_
      refine oj_callS rfl rfl rfl rfl rfl Tryz.call107 (by (repeat' (first | exact trivial | constructor))) (hpath σ (Snap.le_refl _)) fun v s1 hle1 ⟨ps,po,pc,hv,P,hok,hps⟩=>⟨.a (.v (.slice po ps.length pc)),trivial,hv.symm,?_⟩
      refine oj_run TT rfl ?_
      refine oj_callS rfl rfl rfl rfl rfl Tryz.call106 (by (repeat' (first | exact trivial | refine AllLt.of ?_ | constructor))) (hadd s1 hle1 ps hps hok po pc P) fun v s2 hle2 ⟨bo,bc,io,ic,hv,HB,HI⟩=>⟨.tup [.agg [.v (.slice bo (addAll ⟨X.xs,X.next,[]⟩ ps).xs.length bc),.v (.int .i64 (addAll ⟨X.xs,X.next,[]⟩ ps).next)],.a (.v (.slice io (addAll ⟨X.xs,X.next,[]⟩ ps).ids.length ic))],(by (repeat' (first | exact trivial | refine AllLt.of ?_ | refine SV.lt_tup ?_ | constructor))),hv.symm,?_⟩
      refine oj_run TT rfl ?_
      (repeat refine oj_nil ?_)
      refine nj_again (⟨s2,ps,bo,bc,io,ic⟩:AdR) ⟨Snap.le_trans hle1 hle2,hps,fun p hp=>(hok p hp).mono hle2,HB,HI⟩ Nat.zero_lt_one rfl (by (repeat first | exact trivial | refine ⟨rfl,?_⟩)) (by (repeat first | exact trivial | refine ⟨rfl,?_⟩)) rfl (by (repeat' (first | exact trivial | exact Nat.le_of_ble_eq_true rfl | constructor))) (by (repeat' (first | exact trivial | exact Nat.le_of_ble_eq_true rfl | refine AllLt.of ?_ | constructor)))
  obtain ⟨s0,ps,bo,bc,io,ic⟩:=t
  obtain ⟨hle0,hps,hok,HB,HI⟩:=ht
  dsimp only at hle0 hps hok HB HI ⊢
  have hlen:=hpl hps
  have hfit':=addAll_fit ps hfit
  rw [hlen] at hfit'
  have hgok:=addAll_ok (s:=⟨X.xs,X.next,[]⟩) ps (fun x hx=>(IX.ok x hx).mono hle0) hok
  have hP':=hP.add (d:=⟨id,ao,cap,L,io,ic,(addAll ⟨X.xs,X.next,[]⟩ ps).ids⟩) hid hps rfl
  have hfit2:GFit (m+L.length) ⟨(addAll ⟨X.xs,X.next,[]⟩ ps).xs,(addAll ⟨X.xs,X.next,[]⟩ ps).next,[]⟩:=⟨hfit'.xs,Nat.zero_le _,hfit'.next,hfit'.cnt⟩
  generalize hGd:addAll ⟨X.xs,X.next,[]⟩ ps=G at *
  generalize hd0:(⟨id,ao,cap,L,io,ic,G.ids⟩:GDoc)=d at *
  have hdo:doCells d=[.v (.int .i64 id),.v (.slice ao L.length cap)]:=by rw [<-hd0];rfl
  have hli:liCells d=[.v (.slice io G.ids.length ic)]:=by rw [<-hd0];rfl
  have hdn:(X.ds++[d]).length<=1001:=by rw [List.length_append,List.length_singleton];omega
  have hfin:∀ (s:Snap) (so:Option Addr) (sc:Nat) (to:Option Addr) (tc:Nat),s0.le s->SlAt s so (X.ds++[d]).length sc 2 (doRows (X.ds++[d]))->SlAt s to (X.ds++[d]).length tc 1 (liRows (X.ds++[d])) ->
      ∃ X':GIx,(SV.tup [.agg [.v (.slice so (X.ds++[d]).length sc),.v (.slice bo G.xs.length bc),.v (.int .i64 G.next),.v (.slice to (X.ds++[d]).length tc)],.a (.v (.int .i64 0))]).den β0=(SV.tup [.agg (ixCells X'),.a (.v (.int .i64 0))]).den β0/\IxAt s X'/\IdxP X'.ds X'.xs X'.next /\
        (∃ lo lc ids,X'.ds=X.ds++[⟨id,ao,cap,L,lo,lc,ids⟩])/\GFit (m+L.length) ⟨X'.xs,X'.next,[]⟩/\∃ lo lc ps,ps.map SRow.ss=pathsG L/\X'.ds=X.ds++[⟨id,ao,cap,L,lo,lc,(addAll ⟨X.xs,X.next,[]⟩ ps).ids⟩]/\X'.xs=(addAll ⟨X.xs,X.next,[]⟩ ps).xs/\X'.next=(addAll ⟨X.xs,X.next,[]⟩ ps).next:=by
    intro s so sc to tc hle HD HL
    refine ⟨⟨X.ds++[d],so,sc,G.xs,bo,bc,G.next,to,tc⟩,rfl,⟨HD,HL,HB.mono hle,fun x hx=>(hgok x hx).mono hle,fun e he=>?_⟩,hP',⟨io,ic,G.ids,by rw [<-hd0]⟩,hfit2,io,ic,ps,hps,by rw [hGd,<-hd0],by rw [hGd],by rw [hGd]⟩
    rcases List.mem_append.1 he with he | he
    · have:=IX.doc e he
      exact ⟨this.1.mono (Snap.le_trans hle0 hle),this.2.mono (Snap.le_trans hle0 hle)⟩
    · rw [List.mem_singleton] at he
      subst he
      subst hd0
      exact ⟨H.mono (Snap.le_trans hle0 hle),HI.mono hle⟩
  have HDc:=IX.docs.mono hle0
  have HLc:=IX.lines.mono hle0
  refine cj_seq ?_
  refine cj_drawB 18 [0,3,8,11,12,15,17] [(0,.loc 60,ixCells X),(1,.loc 90,[.v (.int .i64 id),.v (.slice ao L.length cap)]),(3,.loc 57,[.v (.slice bo G.xs.length bc),.v (.int .i64 G.next)])] mixed (by kernel_rfl) rfl (subH_of (by (repeat first | exact trivial | refine ⟨rfl,?_⟩))) ?_
  refine gb_val (i:=0) TT rfl (by kernel_rfl) (by kernel_rfl) rfl rfl rfl rfl rfl ?_
  refine gb_val (i:=1) TT rfl (by kernel_rfl) (by kernel_rfl) rfl rfl rfl rfl rfl ?_
  refine gb_val (i:=3) TT rfl (by kernel_rfl) (by kernel_rfl) rfl rfl rfl rfl rfl ?_
  refine gb_val (i:=4) TT rfl (by kernel_rfl) (by kernel_rfl) rfl rfl rfl rfl rfl ?_
  refine gb_val (i:=7) TT rfl (by kernel_rfl) (by kernel_rfl) rfl rfl rfl rfl rfl ?_
  refine gb_val (i:=8) TT rfl (by kernel_rfl) (by kernel_rfl) rfl rfl rfl rfl rfl ?_
  refine gb_val (i:=9) TT rfl (by kernel_rfl) (by kernel_rfl) rfl rfl rfl rfl rfl ?_
  refine gb_val (i:=11) TT rfl (by kernel_rfl) (by kernel_rfl) rfl rfl rfl rfl rfl ?_
  refine gb_val (i:=12) TT rfl (by kernel_rfl) (by kernel_rfl) rfl rfl rfl rfl rfl ?_
  have hle:s0.le s0:=Snap.le_refl _
  refine gb_three (i:=2) (j:=5) (l:=13) (by kernel_rfl) ?_ ?_ ?_
  · refine gb_callF [] (A0:=[]) (Ar:=[]) rfl rfl rfl rfl rfl rfl rfl Tryz.call109 (by (repeat' (first | exact trivial | constructor))) (doClone_c _ X.ds (by omega) X.o X.c HDc) fun v s1 A' hl ⟨qo,qc,hv,hqc,hA⟩=>⟨.a (.v (.slice qo X.ds.length qc)),trivial,hv.symm,?_⟩
    subst hA
    have hle:=Snap.le_trans hle hl
    have HDc:=HDc.mono hl
    have HLc:=HLc.mono hl
    refine gb_two (i:=5) (j:=13) (by kernel_rfl) ?_ ?_
    · refine gb_new TT rfl rfl rfl rfl rfl ?_
      refine gb_own 4 1 2 rfl (by (repeat' (first | exact trivial | refine AllLt.of ?_ | constructor))) rfl (by decide) rfl fun g5=>?_
      refine gb_seal 1 rfl rfl fun s2 hl hS=>?_
      have hle:=Snap.le_trans hle hl
      have HDc:=HDc.mono hl
      have HLc:=HLc.mono hl
      have V5:SlAt s2 (some ⟨g5,0,none⟩) 1 1 2 (doRows [d]):=do_sealed (cap:=1) (l:=[d]) (by unfold doE doXs doRows;rw [List.map_singleton,hdo];exact hS) (Nat.le_refl _)
      refine gb_two (i:=6) (j:=13) (by kernel_rfl) ?_ ?_
      · refine gb_callF [0] (A0:=[doE qo qc X.ds]) (Ar:=[]) rfl rfl rfl rfl rfl rfl rfl Tryz.call108 (by (repeat' (first | exact trivial | constructor))) (doInsert_c _ X.ds (by omega) qo qc hqc d (some ⟨g5,0,none⟩) 1 V5) fun v s3 A' hl ⟨so,sc,hv,hsc,hA⟩=>⟨.a (.v (.slice so (X.ds++[d]).length sc)),trivial,hv.symm,?_⟩
        subst hA
        have hle:=Snap.le_trans hle hl
        have HDc:=HDc.mono hl
        have HLc:=HLc.mono hl
        have V5:=V5.mono hl
        refine gb_seal 0 rfl rfl fun s4 hl hS=>?_
        have hle:=Snap.le_trans hle hl
        have HDc:=HDc.mono hl
        have HLc:=HLc.mono hl
        have V5:=V5.mono hl
        have HD:=do_sealed hS hsc
        refine gb_two (i:=10) (j:=13) (by kernel_rfl) ?_ ?_
        · refine gb_callF [] (A0:=[]) (Ar:=[]) rfl rfl rfl rfl rfl rfl rfl Tryz.call111 (by (repeat' (first | exact trivial | constructor))) (liClone_c _ X.ds (by omega) X.lo X.lc HLc) fun v s5 A' hl ⟨ro,rc,hv,hrc,hA⟩=>⟨.a (.v (.slice ro X.ds.length rc)),trivial,hv.symm,?_⟩
          subst hA
          have hle:=Snap.le_trans hle hl
          have HDc:=HDc.mono hl
          have HLc:=HLc.mono hl
          have V5:=V5.mono hl
          have HD:=HD.mono hl
          refine gb_one (i:=13) (by kernel_rfl) ?_
          refine gb_new TT rfl rfl rfl rfl rfl ?_
          refine gb_own 5 1 1 rfl (by (repeat' (first | exact trivial | refine AllLt.of ?_ | constructor))) rfl (by decide) rfl fun g13=>?_
          refine gb_seal 1 rfl rfl fun s6 hl hS=>?_
          have hle:=Snap.le_trans hle hl
          have HDc:=HDc.mono hl
          have HLc:=HLc.mono hl
          have V5:=V5.mono hl
          have HD:=HD.mono hl
          have V13:SlAt s6 (some ⟨g13,0,none⟩) 1 1 1 (liRows [d]):=li_sealed (cap:=1) (l:=[d]) (by unfold liE liXs liRows;rw [List.map_singleton,hli];exact hS) (Nat.le_refl _)
          refine gb_one (i:=14) (by kernel_rfl) ?_
          refine gb_callF [0] (A0:=[liE ro rc X.ds]) (Ar:=[]) rfl rfl rfl rfl rfl rfl rfl Tryz.call110 (by (repeat' (first | exact trivial | constructor))) (liInsert_c _ X.ds (by omega) ro rc hrc d (some ⟨g13,0,none⟩) 1 V13) fun v s7 A' hl ⟨to,tc,hv,htc,hA⟩=>⟨.a (.v (.slice to (X.ds++[d]).length tc)),trivial,hv.symm,?_⟩
          subst hA
          have hle:=Snap.le_trans hle hl
          have HDc:=HDc.mono hl
          have HLc:=HLc.mono hl
          have V5:=V5.mono hl
          have HD:=HD.mono hl
          have V13:=V13.mono hl
          refine gb_seal 0 rfl rfl fun s8 hl hS=>?_
          have hle:=Snap.le_trans hle hl
          have HDc:=HDc.mono hl
          have HLc:=HLc.mono hl
          have V5:=V5.mono hl
          have HD:=HD.mono hl
          have V13:=V13.mono hl
          have HL:=li_sealed hS htc
          refine gb_order [(15,.pure),(16,.sink),(17,.pure)] rfl rfl (by kernel_rfl) ?_
          refine oj_run TT rfl ?_
          (repeat (first | refine oj_then ?_ | refine cj_ret ?_))
          refine nj_ret TT rfl fun β w' _ _=>?_
          exact hfin _ so sc to tc hle HD HL
        · refine gb_new TT rfl rfl rfl rfl rfl ?_
          refine gb_own 5 1 1 rfl (by (repeat' (first | exact trivial | refine AllLt.of ?_ | constructor))) rfl (by decide) rfl fun g13=>?_
          refine gb_seal 0 rfl rfl fun s9 hl hS=>?_
          have hle:=Snap.le_trans hle hl
          have HDc:=HDc.mono hl
          have HLc:=HLc.mono hl
          have V5:=V5.mono hl
          have HD:=HD.mono hl
          have V13:SlAt s9 (some ⟨g13,0,none⟩) 1 1 1 (liRows [d]):=li_sealed (cap:=1) (l:=[d]) (by unfold liE liXs liRows;rw [List.map_singleton,hli];exact hS) (Nat.le_refl _)
          refine gb_one (i:=10) (by kernel_rfl) ?_
          refine gb_callF [] (A0:=[]) (Ar:=[]) rfl rfl rfl rfl rfl rfl rfl Tryz.call111 (by (repeat' (first | exact trivial | constructor))) (liClone_c _ X.ds (by omega) X.lo X.lc HLc) fun v s10 A' hl ⟨ro,rc,hv,hrc,hA⟩=>⟨.a (.v (.slice ro X.ds.length rc)),trivial,hv.symm,?_⟩
          subst hA
          have hle:=Snap.le_trans hle hl
          have HDc:=HDc.mono hl
          have HLc:=HLc.mono hl
          have V5:=V5.mono hl
          have HD:=HD.mono hl
          have V13:=V13.mono hl
          refine gb_one (i:=14) (by kernel_rfl) ?_
          refine gb_callF [0] (A0:=[liE ro rc X.ds]) (Ar:=[]) rfl rfl rfl rfl rfl rfl rfl Tryz.call110 (by (repeat' (first | exact trivial | constructor))) (liInsert_c _ X.ds (by omega) ro rc hrc d (some ⟨g13,0,none⟩) 1 V13) fun v s11 A' hl ⟨to,tc,hv,htc,hA⟩=>⟨.a (.v (.slice to (X.ds++[d]).length tc)),trivial,hv.symm,?_⟩
          subst hA
          have hle:=Snap.le_trans hle hl
          have HDc:=HDc.mono hl
          have HLc:=HLc.mono hl
          have V5:=V5.mono hl
          have HD:=HD.mono hl
          have V13:=V13.mono hl
          refine gb_seal 0 rfl rfl fun s12 hl hS=>?_
          have hle:=Snap.le_trans hle hl
          have HDc:=HDc.mono hl
          have HLc:=HLc.mono hl
          have V5:=V5.mono hl
          have HD:=HD.mono hl
          have V13:=V13.mono hl
          have HL:=li_sealed hS htc
          refine gb_order [(15,.pure),(16,.sink),(17,.pure)] rfl rfl (by kernel_rfl) ?_
          refine oj_run TT rfl ?_
          (repeat (first | refine oj_then ?_ | refine cj_ret ?_))
          refine nj_ret TT rfl fun β w' _ _=>?_
          exact hfin _ so sc to tc hle HD HL
      · refine gb_new TT rfl rfl rfl rfl rfl ?_
        refine gb_own 5 1 1 rfl (by (repeat' (first | exact trivial | refine AllLt.of ?_ | constructor))) rfl (by decide) rfl fun g13=>?_
        refine gb_seal 1 rfl rfl fun s13 hl hS=>?_
        have hle:=Snap.le_trans hle hl
        have HDc:=HDc.mono hl
        have HLc:=HLc.mono hl
        have V5:=V5.mono hl
        have V13:SlAt s13 (some ⟨g13,0,none⟩) 1 1 1 (liRows [d]):=li_sealed (cap:=1) (l:=[d]) (by unfold liE liXs liRows;rw [List.map_singleton,hli];exact hS) (Nat.le_refl _)
        refine gb_one (i:=6) (by kernel_rfl) ?_
        refine gb_callF [0] (A0:=[doE qo qc X.ds]) (Ar:=[]) rfl rfl rfl rfl rfl rfl rfl Tryz.call108 (by (repeat' (first | exact trivial | constructor))) (doInsert_c _ X.ds (by omega) qo qc hqc d (some ⟨g5,0,none⟩) 1 V5) fun v s14 A' hl ⟨so,sc,hv,hsc,hA⟩=>⟨.a (.v (.slice so (X.ds++[d]).length sc)),trivial,hv.symm,?_⟩
        subst hA
        have hle:=Snap.le_trans hle hl
        have HDc:=HDc.mono hl
        have HLc:=HLc.mono hl
        have V5:=V5.mono hl
        have V13:=V13.mono hl
        refine gb_seal 0 rfl rfl fun s15 hl hS=>?_
        have hle:=Snap.le_trans hle hl
        have HDc:=HDc.mono hl
        have HLc:=HLc.mono hl
        have V5:=V5.mono hl
        have V13:=V13.mono hl
        have HD:=do_sealed hS hsc
        refine gb_one (i:=10) (by kernel_rfl) ?_
        refine gb_callF [] (A0:=[]) (Ar:=[]) rfl rfl rfl rfl rfl rfl rfl Tryz.call111 (by (repeat' (first | exact trivial | constructor))) (liClone_c _ X.ds (by omega) X.lo X.lc HLc) fun v s16 A' hl ⟨ro,rc,hv,hrc,hA⟩=>⟨.a (.v (.slice ro X.ds.length rc)),trivial,hv.symm,?_⟩
        subst hA
        have hle:=Snap.le_trans hle hl
        have HDc:=HDc.mono hl
        have HLc:=HLc.mono hl
        have V5:=V5.mono hl
        have V13:=V13.mono hl
        have HD:=HD.mono hl
        refine gb_one (i:=14) (by kernel_rfl) ?_
        refine gb_callF [0] (A0:=[liE ro rc X.ds]) (Ar:=[]) rfl rfl rfl rfl rfl rfl rfl Tryz.call110 (by (repeat' (first | exact trivial | constructor))) (liInsert_c _ X.ds (by omega) ro rc hrc d (some ⟨g13,0,none⟩) 1 V13) fun v s17 A' hl ⟨to,tc,hv,htc,hA⟩=>⟨.a (.v (.slice to (X.ds++[d]).length tc)),trivial,hv.symm,?_⟩
        subst hA
        have hle:=Snap.le_trans hle hl
        have HDc:=HDc.mono hl
        have HLc:=HLc.mono hl
        have V5:=V5.mono hl
        have V13:=V13.mono hl
        have HD:=HD.mono hl
        refine gb_seal 0 rfl rfl fun s18 hl hS=>?_
        have hle:=Snap.le_trans hle hl
        have HDc:=HDc.mono hl
        have HLc:=HLc.mono hl
        have V5:=V5.mono hl
        have V13:=V13.mono hl
        have HD:=HD.mono hl
        have HL:=li_sealed hS htc
        refine gb_order [(15,.pure),(16,.sink),(17,.pure)] rfl rfl (by kernel_rfl) ?_
        refine oj_run TT rfl ?_
        (repeat (first | refine oj_then ?_ | refine cj_ret ?_))
        refine nj_ret TT rfl fun β w' _ _=>?_
        exact hfin _ so sc to tc hle HD HL
    · refine gb_new TT rfl rfl rfl rfl rfl ?_
      refine gb_own 4 1 1 rfl (by (repeat' (first | exact trivial | refine AllLt.of ?_ | constructor))) rfl (by decide) rfl fun g13=>?_
      refine gb_seal 1 rfl rfl fun s19 hl hS=>?_
      have hle:=Snap.le_trans hle hl
      have HDc:=HDc.mono hl
      have HLc:=HLc.mono hl
      have V13:SlAt s19 (some ⟨g13,0,none⟩) 1 1 1 (liRows [d]):=li_sealed (cap:=1) (l:=[d]) (by unfold liE liXs liRows;rw [List.map_singleton,hli];exact hS) (Nat.le_refl _)
      refine gb_one (i:=5) (by kernel_rfl) ?_
      refine gb_new TT rfl rfl rfl rfl rfl ?_
      refine gb_own 5 1 2 rfl (by (repeat' (first | exact trivial | refine AllLt.of ?_ | constructor))) rfl (by decide) rfl fun g5=>?_
      refine gb_seal 1 rfl rfl fun s20 hl hS=>?_
      have hle:=Snap.le_trans hle hl
      have HDc:=HDc.mono hl
      have HLc:=HLc.mono hl
      have V13:=V13.mono hl
      have V5:SlAt s20 (some ⟨g5,0,none⟩) 1 1 2 (doRows [d]):=do_sealed (cap:=1) (l:=[d]) (by unfold doE doXs doRows;rw [List.map_singleton,hdo];exact hS) (Nat.le_refl _)
      refine gb_one (i:=6) (by kernel_rfl) ?_
      refine gb_callF [0] (A0:=[doE qo qc X.ds]) (Ar:=[]) rfl rfl rfl rfl rfl rfl rfl Tryz.call108 (by (repeat' (first | exact trivial | constructor))) (doInsert_c _ X.ds (by omega) qo qc hqc d (some ⟨g5,0,none⟩) 1 V5) fun v s21 A' hl ⟨so,sc,hv,hsc,hA⟩=>⟨.a (.v (.slice so (X.ds++[d]).length sc)),trivial,hv.symm,?_⟩
      subst hA
      have hle:=Snap.le_trans hle hl
      have HDc:=HDc.mono hl
      have HLc:=HLc.mono hl
      have V13:=V13.mono hl
      have V5:=V5.mono hl
      refine gb_seal 0 rfl rfl fun s22 hl hS=>?_
      have hle:=Snap.le_trans hle hl
      have HDc:=HDc.mono hl
      have HLc:=HLc.mono hl
      have V13:=V13.mono hl
      have V5:=V5.mono hl
      have HD:=do_sealed hS hsc
      refine gb_one (i:=10) (by kernel_rfl) ?_
      refine gb_callF [] (A0:=[]) (Ar:=[]) rfl rfl rfl rfl rfl rfl rfl Tryz.call111 (by (repeat' (first | exact trivial | constructor))) (liClone_c _ X.ds (by omega) X.lo X.lc HLc) fun v s23 A' hl ⟨ro,rc,hv,hrc,hA⟩=>⟨.a (.v (.slice ro X.ds.length rc)),trivial,hv.symm,?_⟩
      subst hA
      have hle:=Snap.le_trans hle hl
      have HDc:=HDc.mono hl
      have HLc:=HLc.mono hl
      have V13:=V13.mono hl
      have V5:=V5.mono hl
      have HD:=HD.mono hl
      refine gb_one (i:=14) (by kernel_rfl) ?_
      refine gb_callF [0] (A0:=[liE ro rc X.ds]) (Ar:=[]) rfl rfl rfl rfl rfl rfl rfl Tryz.call110 (by (repeat' (first | exact trivial | constructor))) (liInsert_c _ X.ds (by omega) ro rc hrc d (some ⟨g13,0,none⟩) 1 V13) fun v s24 A' hl ⟨to,tc,hv,htc,hA⟩=>⟨.a (.v (.slice to (X.ds++[d]).length tc)),trivial,hv.symm,?_⟩
      subst hA
      have hle:=Snap.le_trans hle hl
      have HDc:=HDc.mono hl
      have HLc:=HLc.mono hl
      have V13:=V13.mono hl
      have V5:=V5.mono hl
      have HD:=HD.mono hl
      refine gb_seal 0 rfl rfl fun s25 hl hS=>?_
      have hle:=Snap.le_trans hle hl
      have HDc:=HDc.mono hl
      have HLc:=HLc.mono hl
      have V13:=V13.mono hl
      have V5:=V5.mono hl
      have HD:=HD.mono hl
      have HL:=li_sealed hS htc
      refine gb_order [(15,.pure),(16,.sink),(17,.pure)] rfl rfl (by kernel_rfl) ?_
      refine oj_run TT rfl ?_
      (repeat (first | refine oj_then ?_ | refine cj_ret ?_))
      refine nj_ret TT rfl fun β w' _ _=>?_
      exact hfin _ so sc to tc hle HD HL
  · refine gb_new TT rfl rfl rfl rfl rfl ?_
    refine gb_own 4 1 2 rfl (by (repeat' (first | exact trivial | refine AllLt.of ?_ | constructor))) rfl (by decide) rfl fun g5=>?_
    refine gb_seal 0 rfl rfl fun s26 hl hS=>?_
    have hle:=Snap.le_trans hle hl
    have HDc:=HDc.mono hl
    have HLc:=HLc.mono hl
    have V5:SlAt s26 (some ⟨g5,0,none⟩) 1 1 2 (doRows [d]):=do_sealed (cap:=1) (l:=[d]) (by unfold doE doXs doRows;rw [List.map_singleton,hdo];exact hS) (Nat.le_refl _)
    refine gb_two (i:=2) (j:=13) (by kernel_rfl) ?_ ?_
    · refine gb_callF [] (A0:=[]) (Ar:=[]) rfl rfl rfl rfl rfl rfl rfl Tryz.call109 (by (repeat' (first | exact trivial | constructor))) (doClone_c _ X.ds (by omega) X.o X.c HDc) fun v s27 A' hl ⟨qo,qc,hv,hqc,hA⟩=>⟨.a (.v (.slice qo X.ds.length qc)),trivial,hv.symm,?_⟩
      subst hA
      have hle:=Snap.le_trans hle hl
      have HDc:=HDc.mono hl
      have HLc:=HLc.mono hl
      have V5:=V5.mono hl
      refine gb_two (i:=6) (j:=13) (by kernel_rfl) ?_ ?_
      · refine gb_callF [0] (A0:=[doE qo qc X.ds]) (Ar:=[]) rfl rfl rfl rfl rfl rfl rfl Tryz.call108 (by (repeat' (first | exact trivial | constructor))) (doInsert_c _ X.ds (by omega) qo qc hqc d (some ⟨g5,0,none⟩) 1 V5) fun v s28 A' hl ⟨so,sc,hv,hsc,hA⟩=>⟨.a (.v (.slice so (X.ds++[d]).length sc)),trivial,hv.symm,?_⟩
        subst hA
        have hle:=Snap.le_trans hle hl
        have HDc:=HDc.mono hl
        have HLc:=HLc.mono hl
        have V5:=V5.mono hl
        refine gb_seal 0 rfl rfl fun s29 hl hS=>?_
        have hle:=Snap.le_trans hle hl
        have HDc:=HDc.mono hl
        have HLc:=HLc.mono hl
        have V5:=V5.mono hl
        have HD:=do_sealed hS hsc
        refine gb_two (i:=10) (j:=13) (by kernel_rfl) ?_ ?_
        · refine gb_callF [] (A0:=[]) (Ar:=[]) rfl rfl rfl rfl rfl rfl rfl Tryz.call111 (by (repeat' (first | exact trivial | constructor))) (liClone_c _ X.ds (by omega) X.lo X.lc HLc) fun v s30 A' hl ⟨ro,rc,hv,hrc,hA⟩=>⟨.a (.v (.slice ro X.ds.length rc)),trivial,hv.symm,?_⟩
          subst hA
          have hle:=Snap.le_trans hle hl
          have HDc:=HDc.mono hl
          have HLc:=HLc.mono hl
          have V5:=V5.mono hl
          have HD:=HD.mono hl
          refine gb_one (i:=13) (by kernel_rfl) ?_
          refine gb_new TT rfl rfl rfl rfl rfl ?_
          refine gb_own 5 1 1 rfl (by (repeat' (first | exact trivial | refine AllLt.of ?_ | constructor))) rfl (by decide) rfl fun g13=>?_
          refine gb_seal 1 rfl rfl fun s31 hl hS=>?_
          have hle:=Snap.le_trans hle hl
          have HDc:=HDc.mono hl
          have HLc:=HLc.mono hl
          have V5:=V5.mono hl
          have HD:=HD.mono hl
          have V13:SlAt s31 (some ⟨g13,0,none⟩) 1 1 1 (liRows [d]):=li_sealed (cap:=1) (l:=[d]) (by unfold liE liXs liRows;rw [List.map_singleton,hli];exact hS) (Nat.le_refl _)
          refine gb_one (i:=14) (by kernel_rfl) ?_
          refine gb_callF [0] (A0:=[liE ro rc X.ds]) (Ar:=[]) rfl rfl rfl rfl rfl rfl rfl Tryz.call110 (by (repeat' (first | exact trivial | constructor))) (liInsert_c _ X.ds (by omega) ro rc hrc d (some ⟨g13,0,none⟩) 1 V13) fun v s32 A' hl ⟨to,tc,hv,htc,hA⟩=>⟨.a (.v (.slice to (X.ds++[d]).length tc)),trivial,hv.symm,?_⟩
          subst hA
          have hle:=Snap.le_trans hle hl
          have HDc:=HDc.mono hl
          have HLc:=HLc.mono hl
          have V5:=V5.mono hl
          have HD:=HD.mono hl
          have V13:=V13.mono hl
          refine gb_seal 0 rfl rfl fun s33 hl hS=>?_
          have hle:=Snap.le_trans hle hl
          have HDc:=HDc.mono hl
          have HLc:=HLc.mono hl
          have V5:=V5.mono hl
          have HD:=HD.mono hl
          have V13:=V13.mono hl
          have HL:=li_sealed hS htc
          refine gb_order [(15,.pure),(16,.sink),(17,.pure)] rfl rfl (by kernel_rfl) ?_
          refine oj_run TT rfl ?_
          (repeat (first | refine oj_then ?_ | refine cj_ret ?_))
          refine nj_ret TT rfl fun β w' _ _=>?_
          exact hfin _ so sc to tc hle HD HL
        · refine gb_new TT rfl rfl rfl rfl rfl ?_
          refine gb_own 5 1 1 rfl (by (repeat' (first | exact trivial | refine AllLt.of ?_ | constructor))) rfl (by decide) rfl fun g13=>?_
          refine gb_seal 0 rfl rfl fun s34 hl hS=>?_
          have hle:=Snap.le_trans hle hl
          have HDc:=HDc.mono hl
          have HLc:=HLc.mono hl
          have V5:=V5.mono hl
          have HD:=HD.mono hl
          have V13:SlAt s34 (some ⟨g13,0,none⟩) 1 1 1 (liRows [d]):=li_sealed (cap:=1) (l:=[d]) (by unfold liE liXs liRows;rw [List.map_singleton,hli];exact hS) (Nat.le_refl _)
          refine gb_one (i:=10) (by kernel_rfl) ?_
          refine gb_callF [] (A0:=[]) (Ar:=[]) rfl rfl rfl rfl rfl rfl rfl Tryz.call111 (by (repeat' (first | exact trivial | constructor))) (liClone_c _ X.ds (by omega) X.lo X.lc HLc) fun v s35 A' hl ⟨ro,rc,hv,hrc,hA⟩=>⟨.a (.v (.slice ro X.ds.length rc)),trivial,hv.symm,?_⟩
          subst hA
          have hle:=Snap.le_trans hle hl
          have HDc:=HDc.mono hl
          have HLc:=HLc.mono hl
          have V5:=V5.mono hl
          have HD:=HD.mono hl
          have V13:=V13.mono hl
          refine gb_one (i:=14) (by kernel_rfl) ?_
          refine gb_callF [0] (A0:=[liE ro rc X.ds]) (Ar:=[]) rfl rfl rfl rfl rfl rfl rfl Tryz.call110 (by (repeat' (first | exact trivial | constructor))) (liInsert_c _ X.ds (by omega) ro rc hrc d (some ⟨g13,0,none⟩) 1 V13) fun v s36 A' hl ⟨to,tc,hv,htc,hA⟩=>⟨.a (.v (.slice to (X.ds++[d]).length tc)),trivial,hv.symm,?_⟩
          subst hA
          have hle:=Snap.le_trans hle hl
          have HDc:=HDc.mono hl
          have HLc:=HLc.mono hl
          have V5:=V5.mono hl
          have HD:=HD.mono hl
          have V13:=V13.mono hl
          refine gb_seal 0 rfl rfl fun s37 hl hS=>?_
          have hle:=Snap.le_trans hle hl
          have HDc:=HDc.mono hl
          have HLc:=HLc.mono hl
          have V5:=V5.mono hl
          have HD:=HD.mono hl
          have V13:=V13.mono hl
          have HL:=li_sealed hS htc
          refine gb_order [(15,.pure),(16,.sink),(17,.pure)] rfl rfl (by kernel_rfl) ?_
          refine oj_run TT rfl ?_
          (repeat (first | refine oj_then ?_ | refine cj_ret ?_))
          refine nj_ret TT rfl fun β w' _ _=>?_
          exact hfin _ so sc to tc hle HD HL
      · refine gb_new TT rfl rfl rfl rfl rfl ?_
        refine gb_own 5 1 1 rfl (by (repeat' (first | exact trivial | refine AllLt.of ?_ | constructor))) rfl (by decide) rfl fun g13=>?_
        refine gb_seal 1 rfl rfl fun s38 hl hS=>?_
        have hle:=Snap.le_trans hle hl
        have HDc:=HDc.mono hl
        have HLc:=HLc.mono hl
        have V5:=V5.mono hl
        have V13:SlAt s38 (some ⟨g13,0,none⟩) 1 1 1 (liRows [d]):=li_sealed (cap:=1) (l:=[d]) (by unfold liE liXs liRows;rw [List.map_singleton,hli];exact hS) (Nat.le_refl _)
        refine gb_one (i:=6) (by kernel_rfl) ?_
        refine gb_callF [0] (A0:=[doE qo qc X.ds]) (Ar:=[]) rfl rfl rfl rfl rfl rfl rfl Tryz.call108 (by (repeat' (first | exact trivial | constructor))) (doInsert_c _ X.ds (by omega) qo qc hqc d (some ⟨g5,0,none⟩) 1 V5) fun v s39 A' hl ⟨so,sc,hv,hsc,hA⟩=>⟨.a (.v (.slice so (X.ds++[d]).length sc)),trivial,hv.symm,?_⟩
        subst hA
        have hle:=Snap.le_trans hle hl
        have HDc:=HDc.mono hl
        have HLc:=HLc.mono hl
        have V5:=V5.mono hl
        have V13:=V13.mono hl
        refine gb_seal 0 rfl rfl fun s40 hl hS=>?_
        have hle:=Snap.le_trans hle hl
        have HDc:=HDc.mono hl
        have HLc:=HLc.mono hl
        have V5:=V5.mono hl
        have V13:=V13.mono hl
        have HD:=do_sealed hS hsc
        refine gb_one (i:=10) (by kernel_rfl) ?_
        refine gb_callF [] (A0:=[]) (Ar:=[]) rfl rfl rfl rfl rfl rfl rfl Tryz.call111 (by (repeat' (first | exact trivial | constructor))) (liClone_c _ X.ds (by omega) X.lo X.lc HLc) fun v s41 A' hl ⟨ro,rc,hv,hrc,hA⟩=>⟨.a (.v (.slice ro X.ds.length rc)),trivial,hv.symm,?_⟩
        subst hA
        have hle:=Snap.le_trans hle hl
        have HDc:=HDc.mono hl
        have HLc:=HLc.mono hl
        have V5:=V5.mono hl
        have V13:=V13.mono hl
        have HD:=HD.mono hl
        refine gb_one (i:=14) (by kernel_rfl) ?_
        refine gb_callF [0] (A0:=[liE ro rc X.ds]) (Ar:=[]) rfl rfl rfl rfl rfl rfl rfl Tryz.call110 (by (repeat' (first | exact trivial | constructor))) (liInsert_c _ X.ds (by omega) ro rc hrc d (some ⟨g13,0,none⟩) 1 V13) fun v s42 A' hl ⟨to,tc,hv,htc,hA⟩=>⟨.a (.v (.slice to (X.ds++[d]).length tc)),trivial,hv.symm,?_⟩
        subst hA
        have hle:=Snap.le_trans hle hl
        have HDc:=HDc.mono hl
        have HLc:=HLc.mono hl
        have V5:=V5.mono hl
        have V13:=V13.mono hl
        have HD:=HD.mono hl
        refine gb_seal 0 rfl rfl fun s43 hl hS=>?_
        have hle:=Snap.le_trans hle hl
        have HDc:=HDc.mono hl
        have HLc:=HLc.mono hl
        have V5:=V5.mono hl
        have V13:=V13.mono hl
        have HD:=HD.mono hl
        have HL:=li_sealed hS htc
        refine gb_order [(15,.pure),(16,.sink),(17,.pure)] rfl rfl (by kernel_rfl) ?_
        refine oj_run TT rfl ?_
        (repeat (first | refine oj_then ?_ | refine cj_ret ?_))
        refine nj_ret TT rfl fun β w' _ _=>?_
        exact hfin _ so sc to tc hle HD HL
    · refine gb_new TT rfl rfl rfl rfl rfl ?_
      refine gb_own 5 1 1 rfl (by (repeat' (first | exact trivial | refine AllLt.of ?_ | constructor))) rfl (by decide) rfl fun g13=>?_
      refine gb_seal 0 rfl rfl fun s44 hl hS=>?_
      have hle:=Snap.le_trans hle hl
      have HDc:=HDc.mono hl
      have HLc:=HLc.mono hl
      have V5:=V5.mono hl
      have V13:SlAt s44 (some ⟨g13,0,none⟩) 1 1 1 (liRows [d]):=li_sealed (cap:=1) (l:=[d]) (by unfold liE liXs liRows;rw [List.map_singleton,hli];exact hS) (Nat.le_refl _)
      refine gb_one (i:=2) (by kernel_rfl) ?_
      refine gb_callF [] (A0:=[]) (Ar:=[]) rfl rfl rfl rfl rfl rfl rfl Tryz.call109 (by (repeat' (first | exact trivial | constructor))) (doClone_c _ X.ds (by omega) X.o X.c HDc) fun v s45 A' hl ⟨qo,qc,hv,hqc,hA⟩=>⟨.a (.v (.slice qo X.ds.length qc)),trivial,hv.symm,?_⟩
      subst hA
      have hle:=Snap.le_trans hle hl
      have HDc:=HDc.mono hl
      have HLc:=HLc.mono hl
      have V5:=V5.mono hl
      have V13:=V13.mono hl
      refine gb_one (i:=6) (by kernel_rfl) ?_
      refine gb_callF [0] (A0:=[doE qo qc X.ds]) (Ar:=[]) rfl rfl rfl rfl rfl rfl rfl Tryz.call108 (by (repeat' (first | exact trivial | constructor))) (doInsert_c _ X.ds (by omega) qo qc hqc d (some ⟨g5,0,none⟩) 1 V5) fun v s46 A' hl ⟨so,sc,hv,hsc,hA⟩=>⟨.a (.v (.slice so (X.ds++[d]).length sc)),trivial,hv.symm,?_⟩
      subst hA
      have hle:=Snap.le_trans hle hl
      have HDc:=HDc.mono hl
      have HLc:=HLc.mono hl
      have V5:=V5.mono hl
      have V13:=V13.mono hl
      refine gb_seal 0 rfl rfl fun s47 hl hS=>?_
      have hle:=Snap.le_trans hle hl
      have HDc:=HDc.mono hl
      have HLc:=HLc.mono hl
      have V5:=V5.mono hl
      have V13:=V13.mono hl
      have HD:=do_sealed hS hsc
      refine gb_one (i:=10) (by kernel_rfl) ?_
      refine gb_callF [] (A0:=[]) (Ar:=[]) rfl rfl rfl rfl rfl rfl rfl Tryz.call111 (by (repeat' (first | exact trivial | constructor))) (liClone_c _ X.ds (by omega) X.lo X.lc HLc) fun v s48 A' hl ⟨ro,rc,hv,hrc,hA⟩=>⟨.a (.v (.slice ro X.ds.length rc)),trivial,hv.symm,?_⟩
      subst hA
      have hle:=Snap.le_trans hle hl
      have HDc:=HDc.mono hl
      have HLc:=HLc.mono hl
      have V5:=V5.mono hl
      have V13:=V13.mono hl
      have HD:=HD.mono hl
      refine gb_one (i:=14) (by kernel_rfl) ?_
      refine gb_callF [0] (A0:=[liE ro rc X.ds]) (Ar:=[]) rfl rfl rfl rfl rfl rfl rfl Tryz.call110 (by (repeat' (first | exact trivial | constructor))) (liInsert_c _ X.ds (by omega) ro rc hrc d (some ⟨g13,0,none⟩) 1 V13) fun v s49 A' hl ⟨to,tc,hv,htc,hA⟩=>⟨.a (.v (.slice to (X.ds++[d]).length tc)),trivial,hv.symm,?_⟩
      subst hA
      have hle:=Snap.le_trans hle hl
      have HDc:=HDc.mono hl
      have HLc:=HLc.mono hl
      have V5:=V5.mono hl
      have V13:=V13.mono hl
      have HD:=HD.mono hl
      refine gb_seal 0 rfl rfl fun s50 hl hS=>?_
      have hle:=Snap.le_trans hle hl
      have HDc:=HDc.mono hl
      have HLc:=HLc.mono hl
      have V5:=V5.mono hl
      have V13:=V13.mono hl
      have HD:=HD.mono hl
      have HL:=li_sealed hS htc
      refine gb_order [(15,.pure),(16,.sink),(17,.pure)] rfl rfl (by kernel_rfl) ?_
      refine oj_run TT rfl ?_
      (repeat (first | refine oj_then ?_ | refine cj_ret ?_))
      refine nj_ret TT rfl fun β w' _ _=>?_
      exact hfin _ so sc to tc hle HD HL
  · refine gb_new TT rfl rfl rfl rfl rfl ?_
    refine gb_own 4 1 1 rfl (by (repeat' (first | exact trivial | refine AllLt.of ?_ | constructor))) rfl (by decide) rfl fun g13=>?_
    refine gb_seal 0 rfl rfl fun s51 hl hS=>?_
    have hle:=Snap.le_trans hle hl
    have HDc:=HDc.mono hl
    have HLc:=HLc.mono hl
    have V13:SlAt s51 (some ⟨g13,0,none⟩) 1 1 1 (liRows [d]):=li_sealed (cap:=1) (l:=[d]) (by unfold liE liXs liRows;rw [List.map_singleton,hli];exact hS) (Nat.le_refl _)
    refine gb_two (i:=2) (j:=5) (by kernel_rfl) ?_ ?_
    · refine gb_callF [] (A0:=[]) (Ar:=[]) rfl rfl rfl rfl rfl rfl rfl Tryz.call109 (by (repeat' (first | exact trivial | constructor))) (doClone_c _ X.ds (by omega) X.o X.c HDc) fun v s52 A' hl ⟨qo,qc,hv,hqc,hA⟩=>⟨.a (.v (.slice qo X.ds.length qc)),trivial,hv.symm,?_⟩
      subst hA
      have hle:=Snap.le_trans hle hl
      have HDc:=HDc.mono hl
      have HLc:=HLc.mono hl
      have V13:=V13.mono hl
      refine gb_one (i:=5) (by kernel_rfl) ?_
      refine gb_new TT rfl rfl rfl rfl rfl ?_
      refine gb_own 5 1 2 rfl (by (repeat' (first | exact trivial | refine AllLt.of ?_ | constructor))) rfl (by decide) rfl fun g5=>?_
      refine gb_seal 1 rfl rfl fun s53 hl hS=>?_
      have hle:=Snap.le_trans hle hl
      have HDc:=HDc.mono hl
      have HLc:=HLc.mono hl
      have V13:=V13.mono hl
      have V5:SlAt s53 (some ⟨g5,0,none⟩) 1 1 2 (doRows [d]):=do_sealed (cap:=1) (l:=[d]) (by unfold doE doXs doRows;rw [List.map_singleton,hdo];exact hS) (Nat.le_refl _)
      refine gb_one (i:=6) (by kernel_rfl) ?_
      refine gb_callF [0] (A0:=[doE qo qc X.ds]) (Ar:=[]) rfl rfl rfl rfl rfl rfl rfl Tryz.call108 (by (repeat' (first | exact trivial | constructor))) (doInsert_c _ X.ds (by omega) qo qc hqc d (some ⟨g5,0,none⟩) 1 V5) fun v s54 A' hl ⟨so,sc,hv,hsc,hA⟩=>⟨.a (.v (.slice so (X.ds++[d]).length sc)),trivial,hv.symm,?_⟩
      subst hA
      have hle:=Snap.le_trans hle hl
      have HDc:=HDc.mono hl
      have HLc:=HLc.mono hl
      have V13:=V13.mono hl
      have V5:=V5.mono hl
      refine gb_seal 0 rfl rfl fun s55 hl hS=>?_
      have hle:=Snap.le_trans hle hl
      have HDc:=HDc.mono hl
      have HLc:=HLc.mono hl
      have V13:=V13.mono hl
      have V5:=V5.mono hl
      have HD:=do_sealed hS hsc
      refine gb_one (i:=10) (by kernel_rfl) ?_
      refine gb_callF [] (A0:=[]) (Ar:=[]) rfl rfl rfl rfl rfl rfl rfl Tryz.call111 (by (repeat' (first | exact trivial | constructor))) (liClone_c _ X.ds (by omega) X.lo X.lc HLc) fun v s56 A' hl ⟨ro,rc,hv,hrc,hA⟩=>⟨.a (.v (.slice ro X.ds.length rc)),trivial,hv.symm,?_⟩
      subst hA
      have hle:=Snap.le_trans hle hl
      have HDc:=HDc.mono hl
      have HLc:=HLc.mono hl
      have V13:=V13.mono hl
      have V5:=V5.mono hl
      have HD:=HD.mono hl
      refine gb_one (i:=14) (by kernel_rfl) ?_
      refine gb_callF [0] (A0:=[liE ro rc X.ds]) (Ar:=[]) rfl rfl rfl rfl rfl rfl rfl Tryz.call110 (by (repeat' (first | exact trivial | constructor))) (liInsert_c _ X.ds (by omega) ro rc hrc d (some ⟨g13,0,none⟩) 1 V13) fun v s57 A' hl ⟨to,tc,hv,htc,hA⟩=>⟨.a (.v (.slice to (X.ds++[d]).length tc)),trivial,hv.symm,?_⟩
      subst hA
      have hle:=Snap.le_trans hle hl
      have HDc:=HDc.mono hl
      have HLc:=HLc.mono hl
      have V13:=V13.mono hl
      have V5:=V5.mono hl
      have HD:=HD.mono hl
      refine gb_seal 0 rfl rfl fun s58 hl hS=>?_
      have hle:=Snap.le_trans hle hl
      have HDc:=HDc.mono hl
      have HLc:=HLc.mono hl
      have V13:=V13.mono hl
      have V5:=V5.mono hl
      have HD:=HD.mono hl
      have HL:=li_sealed hS htc
      refine gb_order [(15,.pure),(16,.sink),(17,.pure)] rfl rfl (by kernel_rfl) ?_
      refine oj_run TT rfl ?_
      (repeat (first | refine oj_then ?_ | refine cj_ret ?_))
      refine nj_ret TT rfl fun β w' _ _=>?_
      exact hfin _ so sc to tc hle HD HL
    · refine gb_new TT rfl rfl rfl rfl rfl ?_
      refine gb_own 5 1 2 rfl (by (repeat' (first | exact trivial | refine AllLt.of ?_ | constructor))) rfl (by decide) rfl fun g5=>?_
      refine gb_seal 0 rfl rfl fun s59 hl hS=>?_
      have hle:=Snap.le_trans hle hl
      have HDc:=HDc.mono hl
      have HLc:=HLc.mono hl
      have V13:=V13.mono hl
      have V5:SlAt s59 (some ⟨g5,0,none⟩) 1 1 2 (doRows [d]):=do_sealed (cap:=1) (l:=[d]) (by unfold doE doXs doRows;rw [List.map_singleton,hdo];exact hS) (Nat.le_refl _)
      refine gb_one (i:=2) (by kernel_rfl) ?_
      refine gb_callF [] (A0:=[]) (Ar:=[]) rfl rfl rfl rfl rfl rfl rfl Tryz.call109 (by (repeat' (first | exact trivial | constructor))) (doClone_c _ X.ds (by omega) X.o X.c HDc) fun v s60 A' hl ⟨qo,qc,hv,hqc,hA⟩=>⟨.a (.v (.slice qo X.ds.length qc)),trivial,hv.symm,?_⟩
      subst hA
      have hle:=Snap.le_trans hle hl
      have HDc:=HDc.mono hl
      have HLc:=HLc.mono hl
      have V13:=V13.mono hl
      have V5:=V5.mono hl
      refine gb_one (i:=6) (by kernel_rfl) ?_
      refine gb_callF [0] (A0:=[doE qo qc X.ds]) (Ar:=[]) rfl rfl rfl rfl rfl rfl rfl Tryz.call108 (by (repeat' (first | exact trivial | constructor))) (doInsert_c _ X.ds (by omega) qo qc hqc d (some ⟨g5,0,none⟩) 1 V5) fun v s61 A' hl ⟨so,sc,hv,hsc,hA⟩=>⟨.a (.v (.slice so (X.ds++[d]).length sc)),trivial,hv.symm,?_⟩
      subst hA
      have hle:=Snap.le_trans hle hl
      have HDc:=HDc.mono hl
      have HLc:=HLc.mono hl
      have V13:=V13.mono hl
      have V5:=V5.mono hl
      refine gb_seal 0 rfl rfl fun s62 hl hS=>?_
      have hle:=Snap.le_trans hle hl
      have HDc:=HDc.mono hl
      have HLc:=HLc.mono hl
      have V13:=V13.mono hl
      have V5:=V5.mono hl
      have HD:=do_sealed hS hsc
      refine gb_one (i:=10) (by kernel_rfl) ?_
      refine gb_callF [] (A0:=[]) (Ar:=[]) rfl rfl rfl rfl rfl rfl rfl Tryz.call111 (by (repeat' (first | exact trivial | constructor))) (liClone_c _ X.ds (by omega) X.lo X.lc HLc) fun v s63 A' hl ⟨ro,rc,hv,hrc,hA⟩=>⟨.a (.v (.slice ro X.ds.length rc)),trivial,hv.symm,?_⟩
      subst hA
      have hle:=Snap.le_trans hle hl
      have HDc:=HDc.mono hl
      have HLc:=HLc.mono hl
      have V13:=V13.mono hl
      have V5:=V5.mono hl
      have HD:=HD.mono hl
      refine gb_one (i:=14) (by kernel_rfl) ?_
      refine gb_callF [0] (A0:=[liE ro rc X.ds]) (Ar:=[]) rfl rfl rfl rfl rfl rfl rfl Tryz.call110 (by (repeat' (first | exact trivial | constructor))) (liInsert_c _ X.ds (by omega) ro rc hrc d (some ⟨g13,0,none⟩) 1 V13) fun v s64 A' hl ⟨to,tc,hv,htc,hA⟩=>⟨.a (.v (.slice to (X.ds++[d]).length tc)),trivial,hv.symm,?_⟩
      subst hA
      have hle:=Snap.le_trans hle hl
      have HDc:=HDc.mono hl
      have HLc:=HLc.mono hl
      have V13:=V13.mono hl
      have V5:=V5.mono hl
      have HD:=HD.mono hl
      refine gb_seal 0 rfl rfl fun s65 hl hS=>?_
      have hle:=Snap.le_trans hle hl
      have HDc:=HDc.mono hl
      have HLc:=HLc.mono hl
      have V13:=V13.mono hl
      have V5:=V5.mono hl
      have HD:=HD.mono hl
      have HL:=li_sealed hS htc
      refine gb_order [(15,.pure),(16,.sink),(17,.pure)] rfl rfl (by kernel_rfl) ?_
      refine oj_run TT rfl ?_
      (repeat (first | refine oj_then ?_ | refine cj_ret ?_))
      refine nj_ret TT rfl fun β w' _ _=>?_
      exact hfin _ so sc to tc hle HD HL
theorem IxAdd_c (σ:Snap) (X:GIx) (IX:IxAt σ X) (hP:IdxP X.ds X.xs X.next) (id:Int) (L:List GRec) (R:RecsOk L) (hL:L.length<=100000) (hs:soundG L=true) (hlev:levelsOk 0 L) (ao:Option Addr) (cap:Nat) (H:SlAt σ ao L.length cap 11 (recRows L))
    (hid:∀ d∈X.ds,d.id<id) (hds:X.ds.length<=1000) (m:Nat) (hfit:GFit m ⟨X.xs,X.next,[]⟩) (hm:m+L.length<=1000000) :
    PureS Tryz.prog 40 [.agg (ixCells X),.agg [.v (.int .i64 id),.v (.slice ao L.length cap)]] σ (fun v σ'=>∃ X':GIx,v=(SV.tup [.agg (ixCells X'),.a (.v (.int .i64 0))]).den β0/\IxAt σ' X'/\IdxP X'.ds X'.xs X'.next /\
      (∃ lo lc ids,X'.ds=X.ds++[⟨id,ao,cap,L,lo,lc,ids⟩])/\GFit (m+L.length) ⟨X'.xs,X'.next,[]⟩) :=
  fun w hw=>Calls.mono (IxAdd_x σ X IX hP id L R hL hs hlev ao cap H hid hds m hfit hm w hw) fun _ _ ⟨v,σ',h1,h2,h3,h4,X',q1,q2,q3,q4,q5,_⟩=>⟨v,σ',h1,h2,h3,h4,X',q1,q2,q3,q4,q5⟩
end Go.Sy
namespace Go.Sy
open Go.Proofs
theorem fnLt1 (f:FuncId) (g:Nat):(SV.a (.fn (.func f) [.val (.pointer (some ⟨g,0,none⟩))])).lt 0:=by
  intro p hp
  rw [List.mem_singleton] at hp
  subst hp
  trivial
end Go.Sy
namespace Go.Sy
open Go.Proofs
theorem cell1_of {σ:Snap} {g cap e:Nat} {v:Value} (hS:ArrSealed σ ⟨some ⟨g,0,none⟩,1,cap,e,1,[v]⟩):σ.cell ⟨g,0,none⟩=some v:=by
  rcases hS with ⟨h,_⟩ | ⟨g',h1,h2⟩
  · cases h
  · have h1:some (⟨g,0,none⟩:Addr)=some ⟨g',0,none⟩:=h1
    injection h1 with h1
    injection h1 with h1
    subst h1
    exact h2 0 v rfl
end Go.Sy
namespace Go.Sy
open Go.Proofs
set_option maxRecDepth 100000 in
set_option maxHeartbeats 1000000 in
theorem item_c (σ:Snap) (d:GDoc) (H:SlAt σ d.o d.L.length d.cap 11 (recRows d.L)) (i:Nat) (r:GRec) (hr:d.L[i]?=some r) :
    PlainS Tryz.prog 103 [.agg (doCells d),.a (.v (.int .i64 i))] σ (fun v=>v=(SV.agg (itCells (itemOf d.id r i))).den β0):=by
  have hrow:=recRows_get hr
  refine enter_p Tryz.func103 rfl rfl ⟨doCells_lt 0 d,trivial,trivial⟩ fun w=>?_
  (repeat (first | refine cj_seq ?_ | refine cjr TT rfl ?_ | refine oj_then ?_))
  refine oj_idx TT rfl rfl rfl rfl rfl rfl rfl rfl rfl H (by omega) hrow (oj_run TT rfl ?_)
  (repeat (first | refine cj_seq ?_ | refine cjr TT rfl ?_ | refine oj_then ?_ | refine cj_ret ?_))
  refine nj_ret TT rfl fun β w' _ _=>?_
  rfl
def onP (q:Int->Bool) (d:GDoc) (j:Nat):List GItem:=((((itemsD d.id d.L).zip d.ids).take j).filter fun x=>q x.2).map Prod.fst
theorem onP_all (q:Int->Bool) (d:GDoc) (h:d.ids.length=d.L.length):onP q d d.ids.length=onD q d:=by
  unfold onP onD
  rw [List.take_of_length_le (by rw [List.length_zip,itemsD_len];omega)]
theorem onP_succ {q:Int->Bool} {d:GDoc} {j:Nat} {k:Int} {r:GRec} (hk:d.ids[j]?=some k) (hr:d.L[j]?=some r):onP q d (j+1)=onP q d j++if q k then [itemOf d.id r j] else []:=by
  have h1:=itemsD_get (id:=d.id) hr
  have h2:((itemsD d.id d.L).zip d.ids)[j]?=some (itemOf d.id r j,k):=by
    rw [List.getElem?_zip_eq_some]
    exact ⟨h1,hk⟩
  obtain ⟨hj,he⟩:=List.getElem?_eq_some_iff.1 h2
  unfold onP
  rw [List.take_succ_eq_append_getElem hj,he,List.filter_append,List.map_append]
  congr 1
  rw [List.filter_cons]
  dsimp only
  split<;>rfl
theorem onP_len (q:Int->Bool) (d:GDoc) (j:Nat):(onP q d j).length<=j:=by
  unfold onP
  rw [List.length_map]
  refine Nat.le_trans (List.length_filter_le _ _) ?_
  rw [List.length_take]
  omega
theorem onG_succ {q:Int->Bool} {ds:List GDoc} {k:Nat} {d:GDoc} (h:ds[k]?=some d):onG q (ds.take (k+1))=onG q (ds.take k)++onD q d:=by
  obtain ⟨hk,he⟩:=List.getElem?_eq_some_iff.1 h
  unfold onG
  rw [List.take_succ_eq_append_getElem hk,he,List.flatMap_append]
  simp
structure OnS where
  k:Nat
  o:List GItem
  oo:Option Addr
  oc:Nat
end Go.Sy
namespace Go.Sy
open Go.Proofs
theorem shred_facts {σ:Snap} {g:GVal} {r:List AT} (hr:RepV σ g r) {gap:Int} (hg:1<=gap) (hg2:gap<=1000) (hw:g.weight<=4000) (hs:sane g=0) {L:List GRec} (hL:L=(shredV gap g 0 false emptyS 0).1) :
    L.length=cntV g/\L.length<=g.weight/\0<L.length/\soundG L=true/\RecsOk L/\buildR L=(g,0):=by
  subst hL
  have hcnt:=shredV_cnt gap g 0 false emptyS 0 hr.wf
  obtain ⟨hlen1,hlen2⟩:=shredV_len gap g 0 false emptyS 0
  have hfit:=shredV_fit gap g _ 0 false emptyS 0 hr (by decide)
  have hpos:=cntV_pos g
  have hnow:=(shredV_now (gap:=gap) g 0 false emptyS 0 (by omega) hg2).2
  have hbd:buildR (shredV gap g 0 false emptyS 0).1=(g,0):=by
    have:=buildR_shred (φ:=fun x=>x) (fun a b _ h=>h) (gap:=gap) (by omega) (by omega) g hr.wf hs (by omega) (by omega)
    rw [stE_id,List.map_id] at this
    exact this
  have hBG:buildG (shredV gap g 0 false emptyS 0).1=(g,[]):=by
    have:=build_shred (fun x=>x) gap g false emptyS 0 hr.wf
    rw [stE_id,List.map_id] at this
    exact this
  have hsound:soundG (shredV gap g 0 false emptyS 0).1=true:=by
    unfold soundG
    rw [hbd]
    rfl
  exact ⟨hcnt,hlen1,by omega,hsound,⟨by simp only [mostLen];omega,hfit,fun _=>by rw [hBG];show g.weight<=_;omega⟩,hbd⟩
end Go.Sy
namespace Go.Sy
open Go.Proofs
structure MadeOk (gap:Int) (X:GIx) (k:Nat):Prop where
  idx:IdxP X.ds X.xs X.next
  doc:∀ d∈X.ds,∃ g:GVal,g.wf/\sane g=0/\g.weight<=300/\d.L=(shredV gap g 0 false emptyS 0).1/\soundG d.L=true/\RecsOk d.L/\d.L.length<=300
  id:∀ d∈X.ds,0<=d.id/\d.id<k
  num:X.ds.length<=k
  fit:GFit (k*300) ⟨X.xs,X.next,[]⟩
theorem made0 (gap:Int):MadeOk gap ix0 0:=⟨IdxP.nil,fun _ h=>(by cases h),fun _ h=>(by cases h),Nat.le_refl _,⟨Nat.le_refl _,Nat.le_refl _,by decide,fun _ h=>(by cases h)⟩⟩
theorem MadeOk.skip {gap:Int} {X:GIx} {k:Nat} (h:MadeOk gap X k):MadeOk gap X (k+1) :=
  ⟨h.idx,h.doc,fun d hd=>by have:=h.id d hd;omega,by have:=h.num;omega,h.fit.mono (by omega)⟩
theorem shred_levels {gap:Int} (hg:0<gap) (g:GVal):levelsOk 0 (shredV gap g 0 false emptyS 0).1:=by
  have:=nested_shred (φ:=fun x=>x) (fun a b _ h=>h) (gap:=gap) hg g false emptyS (by omega)
  rw [stE_id,List.map_id] at this
  unfold nestedG at this
  simp only [Bool.and_eq_true] at this
  exact nest_levels _ 0 [] (-1) this.1
end Go.Sy
namespace Go.Sy
open Go.Proofs
def itVals (x:GItem):Array Value:=#[.int .i64 x.doc,.int .i64 x.at_,.int .i64 x.st,.int .i64 x.en,.int .i64 x.lv]
theorem und71:Tryz.prog.underlying 71=some (.struct (Tryz.prog.fieldsOf 71)):=by kernel_rfl
theorem eqItem_ok (m:Nat) (a b:GItem) (w:World):(Op.equalIn (m+1+1) 71 (.agg (itVals a)) (.agg (itVals b))).run Tryz.prog w=.ok (decide (a=b)) w:=by
  rw [run_equalIn_agg w (m+1) 71 _ _ und71 (by kernel_rfl)]
  have h:fieldsAre (Tryz.prog.fieldsOf 71).toList [(3,0),(3,1),(3,2),(3,3),(3,4)]=true:=by kernel_rfl
  generalize (Tryz.prog.fieldsOf 71).toList=fl at h
  obtain ⟨f0,fl,rfl,n0,t0,o0,h⟩:=fieldsAre_cons h
  obtain ⟨f1,fl,rfl,n1,t1,o1,h⟩:=fieldsAre_cons h
  obtain ⟨f2,fl,rfl,n2,t2,o2,h⟩:=fieldsAre_cons h
  obtain ⟨f3,fl,rfl,n3,t3,o3,h⟩:=fieldsAre_cons h
  obtain ⟨f4,fl,rfl,n4,t4,o4,h⟩:=fieldsAre_cons h
  cases fl with
  | cons _ _=>cases h
  | nil =>
    have ii:∀ (f:Field) (o:Nat) (r:GItem) (x:Int),f.type=3->f.offset=o->(itVals r)[o]?=some (.int .i64 x)->(part f.type (itVals r) f.offset).run Tryz.prog w=.ok (.int .i64 x) w:=fun f o r x ht ho hx=>run_part1 (by rw [ht];exact und3) rfl (by rw [ho];exact hx)
    rw [eqFields_cons (r:=a.doc == b.doc) n0 (ii f0 0 a _ t0 o0 rfl) (ii f0 0 b _ t0 o0 rfl) (run_equalIn_int w m f0.type .i64 .i64 a.doc b.doc (by rw [t0];exact und3))]
    rw [eqFields_cons (r:=a.at_ == b.at_) n1 (ii f1 1 a _ t1 o1 rfl) (ii f1 1 b _ t1 o1 rfl) (run_equalIn_int w m f1.type .i64 .i64 a.at_ b.at_ (by rw [t1];exact und3))]
    rw [eqFields_cons (r:=a.st == b.st) n2 (ii f2 2 a _ t2 o2 rfl) (ii f2 2 b _ t2 o2 rfl) (run_equalIn_int w m f2.type .i64 .i64 a.st b.st (by rw [t2];exact und3))]
    rw [eqFields_cons (r:=a.en == b.en) n3 (ii f3 3 a _ t3 o3 rfl) (ii f3 3 b _ t3 o3 rfl) (run_equalIn_int w m f3.type .i64 .i64 a.en b.en (by rw [t3];exact und3))]
    rw [eqFields_cons (r:=a.lv == b.lv) n4 (ii f4 4 a _ t4 o4 rfl) (ii f4 4 b _ t4 o4 rfl) (run_equalIn_int w m f4.type .i64 .i64 a.lv b.lv (by rw [t4];exact und3))]
    simp only [Op.eqFields,Sem.run_pure]
    have:(decide (a=b))=(a.doc == b.doc&&(a.at_ == b.at_&&(a.st == b.st&&(a.en == b.en&&(a.lv == b.lv))))):=by
      rw [Bool.eq_iff_iff]
      cases a;cases b
      simp
    rw [this]
    cases (a.doc == b.doc)<;>cases (a.at_ == b.at_)<;>cases (a.st == b.st)<;>cases (a.en == b.en)<;>cases (a.lv == b.lv)<;>rfl
section
variable {cf:Cf} {Q:Exit->Act->World->Prop} {σ:Snap} {env:Env} {hp:HP} {A:List AE} {nh:Nat} {it:Item} {rest:List Item}
theorem oj_neItem {d:Nat} {x y:Operand} {yt:TypeId} (a b:GItem) (hP:cf.P=Tryz.prog)
    (hop:it.o.op=.binOp .neq 71 x y yt) (hd:it.o.dst=some d) (hg:guardVal it.guard env=some true) (hN:Nat.blt d cf.N=true) (hx:evalO env x=some (.agg (itCells a))) (hy:evalO env y=some (.agg (itCells b)))
    (hk:OJ cf rest Q σ ((d,.a (.b (!decide (a=b))))::env) hp A nh):OJ cf (it::rest) Q σ env hp A nh:=by
  refine oj_val (.a (.b (!decide (a=b)))) hd hg hN trivial (fun _ ac β ha w=>?_) hk
  have h1:ac.eval x=.agg (itVals a):=evalO_eval ha hx
  have h2:ac.eval y=.agg (itVals b):=evalO_eval ha hy
  rw [hP]
  have hG:(eqGuard .neq 71 x y (.agg (itVals a)) (.agg (itVals b))).run Tryz.prog w=.ok () w:=run_eqGuard_agg w _ _ _ _ _ _ (by kernel_rfl)
  have hE:(Op.equalIn 10000 71 (.agg (itVals a)) (.agg (itVals b))).run Tryz.prog w=.ok (decide (a=b)) w:=eqItem_ok 9998 a b w
  have hB:(binOp .neq 71 (.agg (itVals a)) (.agg (itVals b))).run Tryz.prog w=.ok (.bool (!decide (a=b))) w:=by
    rw [run_neq_struct,hE]
    rfl
  simp only [execOp,hop,h1,h2,Sem.run_bind,hG,hB,Result.andThen_ok,Sem.run_pure]
  rfl
end
end Go.Sy
namespace Go.Sy
open Go.Proofs
def recZ:GRec:=⟨0,0,0,0,false,emptyB,false,dec0,emptyB⟩
def recIn (it:GItem) (d:GDoc):Option GRec :=
  if it.at_<0 then none else
  match d.L[it.at_.toNat]? with
  | none=>none
  | some r=>if itemOf d.id r it.at_.toNat=it then some r else none
def recAt (ds:List GDoc) (it:GItem):Option GRec:=(ds.find? fun d=>decide (d.id=it.doc)).bind (recIn it)
theorem find_place {ds:List GDoc} {id:Int} {p:Nat} (ho:ds.Pairwise fun x y=>x.id<y.id) (hp:PlaceAt ds id p):(ds.find? fun d=>decide (d.id=id))=if isAt ds id p then ds[p]? else none:=by
  unfold isAt
  cases hd:ds[p]? with
  | none =>
    have hn:=List.getElem?_eq_none_iff.1 hd
    rw [if_neg (by simp),List.find?_eq_none]
    intro d hd'
    obtain ⟨k,hk,rfl⟩:=List.mem_iff_getElem.1 hd'
    have:=hp.lo k _ (by omega) (List.getElem?_eq_getElem hk)
    rw [decide_eq_true_eq]
    omega
  | some d =>
    obtain ⟨hpl,he⟩:=List.getElem?_eq_some_iff.1 hd
    dsimp only
    split
    · rename_i h
      have h:d.id=id:=by simpa using h
      rw [List.find?_eq_some_iff_getElem]
      refine ⟨by rw [decide_eq_true_eq];exact h,p,hpl,he,fun j hj=>?_⟩
      have:=hp.lo j _ hj (List.getElem?_eq_getElem (by omega))
      simp only [Bool.not_eq_true',decide_eq_false_iff_not]
      omega
    · rename_i h
      have h:d.id≠id:=by simpa using h
      rw [List.find?_eq_none]
      intro x hx
      obtain ⟨k,hk,rfl⟩:=List.mem_iff_getElem.1 hx
      rw [decide_eq_true_eq]
      intro hid
      have hg:=List.getElem?_eq_getElem hk
      have h0:=hp.hi p d (Nat.le_refl _) hd
      rcases Nat.lt_trichotomy k p with hkp | hkp | hkp
      · have:=hp.lo k _ hkp hg
        omega
      · subst hkp
        rw [he] at hid
        exact h hid
      · have:=List.pairwise_iff_getElem.1 ho p k hpl hk hkp
        rw [he] at this
        omega
theorem recAt_none {ds:List GDoc} {it:GItem} {p:Nat} (ho:ds.Pairwise fun x y=>x.id<y.id) (hp:PlaceAt ds it.doc p) (h:isAt ds it.doc p=false):recAt ds it=none:=by
  unfold recAt
  rw [find_place ho hp,h]
  rfl
theorem recAt_some {ds:List GDoc} {it:GItem} {p:Nat} (ho:ds.Pairwise fun x y=>x.id<y.id) (hp:PlaceAt ds it.doc p) (h:isAt ds it.doc p=true):∃ d,ds[p]?=some d/\d.id=it.doc/\recAt ds it=recIn it d:=by
  unfold recAt
  rw [find_place ho hp,h,if_pos rfl]
  unfold isAt at h
  cases hd:ds[p]? with
  | none=>rw [hd] at h;cases h
  | some d =>
    rw [hd] at h
    exact ⟨d,rfl,by simpa using h,rfl⟩
def recV (o:Option GRec):Value:=.tuple #[(SV.agg (recCells (o.getD recZ))).den β0,.bool o.isSome]
set_option maxRecDepth 100000 in
set_option maxHeartbeats 4000000 in
theorem record_c (σ:Snap) (X:GIx) (IX:IxAt σ X) (hl:X.ds.length<=1000000) (ho:X.ds.Pairwise fun x y=>x.id<y.id) (it:GItem) :
    PlainS Tryz.prog 101 [.agg (ixCells X),.agg (itCells it)] σ (fun v=>v=recV (recAt X.ds it)):=by
  refine enter_p Tryz.func101 rfl rfl ⟨ixCells_lt 0 X,itCells_lt 0 it,trivial⟩ fun w=>?_
  (repeat (first | refine cj_seq ?_ | refine cjr TT rfl ?_ | refine oj_then ?_))
  refine oj_set 9 (.agg (ixCells X)) rfl (ixCells_lt _ _) (fun _=>rfl) ?_
  refine oj_callP (ys:=[.agg (ixCells X),.a (.v (.int .i64 it.doc))]) rfl rfl rfl rfl rfl Tryz.call102 ⟨ixCells_lt 0 X,trivial,trivial⟩ (place_c σ X IX.docs hl ho it.doc) fun v ⟨p,hv,hp⟩=>⟨.tup [.a (.v (.int .i64 p)),.a (.b (isAt X.ds it.doc p))],(by (repeat' (first | exact trivial | refine SV.lt_tup ?_ | constructor))),hv.symm,?_⟩
  refine oj_run TT rfl ?_
  (repeat (first | refine cj_seq ?_ | refine oj_then ?_))
  refine cj_draw [(0,.pure),(1,.pure),(2,.pure),(3,.pure),(4,.quiet),(5,.pure),(6,.pure),(7,.pure),(8,.pure),(9,.quiet),(10,.pure),(11,.quiet),(12,.pure),(13,.pure),(14,.pure),(15,.quiet),(16,.pure),(17,.pure),(18,.pure),(19,.pure),(20,.pure),(21,.quiet),(22,.pure),(23,.pure),(24,.quiet),(25,.pure),(26,.quiet),(28,.quiet),(27,.keep),(29,.pure),(30,.pure)] mixed (by kernel_rfl) (oj_run TT rfl ?_)
  refine oj_split 17 rfl (fun h=>?_) (fun h=>?_)
  · have h:isAt X.ds it.doc p=false:=by simpa using h
    rw [recAt_none ho hp h]
    refine oj_run TT rfl ?_
    (repeat (first | refine cj_seq ?_ | refine cjr TT rfl ?_ | refine oj_then ?_ | refine cj_if_t rfl ?_ | refine cj_ret ?_ | refine nj_then_ret ?_))
    refine nj_ret TT rfl fun β w' _ _=>?_
    rfl
  have h:isAt X.ds it.doc p=true:=by simpa using h
  obtain ⟨d,hd,hid,hrec⟩:=recAt_some ho hp h
  rw [hrec]
  have hdd:=IX.doc d (List.mem_of_getElem? hd)
  have hpl:=(List.getElem?_eq_some_iff.1 hd).1
  have hrow:=doRows_get hd
  obtain ⟨idoc,iat,ist,ien,ilv⟩:=it
  dsimp only at hid
  refine oj_run TT rfl ?_
  refine oj_split 22 rfl (fun h0=>?_) (fun h0=>?_)
  · have h0:iat<0:=of_decide_eq_true h0
    have e:recIn ⟨idoc,iat,ist,ien,ilv⟩ d=none:=by unfold recIn;dsimp only;rw [if_pos h0]
    rw [e]
    refine oj_run TT rfl ?_
    (repeat (first | refine cj_seq ?_ | refine cjr TT rfl ?_ | refine oj_then ?_ | refine cj_if_t rfl ?_ | refine cj_ret ?_ | refine nj_then_ret ?_))
    refine nj_ret TT rfl fun β w' _ _=>?_
    rfl
  have h0:¬ iat<0:=of_decide_eq_false h0
  obtain ⟨n,rfl⟩:∃ n:Nat,iat=n:=⟨iat.toNat,by omega⟩
  refine oj_run TT rfl ?_
  refine oj_idx TT rfl rfl rfl rfl rfl rfl rfl rfl rfl IX.docs (by omega) hrow (oj_run TT rfl ?_)
  refine oj_split 34 rfl (fun h1=>?_) (fun h1=>?_)
  · have h1:(d.L.length:Int)<=n:=of_decide_eq_true h1
    have e:recIn ⟨idoc,n,ist,ien,ilv⟩ d=none:=by unfold recIn;dsimp only;rw [if_neg h0,Int.toNat_natCast,List.getElem?_eq_none (by omega)]
    rw [e]
    refine oj_run TT rfl ?_
    (repeat (first | refine cj_seq ?_ | refine cjr TT rfl ?_ | refine oj_then ?_ | refine cj_if_t rfl ?_ | refine cj_ret ?_ | refine nj_then_ret ?_))
    refine nj_ret TT rfl fun β w' _ _=>?_
    rfl
  have h1:¬ (d.L.length:Int)<=n:=of_decide_eq_false h1
  have hnl:n<d.L.length:=by omega
  have hx:=List.getElem?_eq_getElem hnl
  have e:recIn ⟨idoc,n,ist,ien,ilv⟩ d=if itemOf d.id d.L[n] n=⟨idoc,n,ist,ien,ilv⟩ then some d.L[n] else none:=by
    unfold recIn
    dsimp only
    rw [if_neg h0,Int.toNat_natCast,hx]
  rw [e]
  have hrow2:=recRows_get hx
  have hit:=item_c σ d hdd.1 n _ hx
  generalize d.L[n]=r at *
  refine oj_run TT rfl ?_
  refine oj_idx TT rfl rfl rfl rfl rfl rfl rfl rfl rfl IX.docs (by omega) hrow (oj_run TT rfl ?_)
  refine oj_callP (ys:=[.agg (doCells d),.a (.v (.int .i64 n))]) rfl rfl rfl rfl rfl Tryz.call103 ⟨doCells_lt 0 d,trivial,trivial⟩ hit fun v hv=>⟨.agg (itCells (itemOf d.id r n)),itCells_lt _ _,hv.symm,?_⟩
  refine oj_run TT rfl ?_
  refine oj_neItem (itemOf d.id r n) ⟨idoc,n,ist,ien,ilv⟩ rfl rfl rfl rfl rfl rfl rfl (oj_run TT rfl ?_)
  (repeat refine oj_then ?_)
  refine cj_if rfl (fun h2=>?_) (fun h2=>?_)
  · have h2:itemOf d.id r n≠⟨idoc,n,ist,ien,ilv⟩:=by
      have h:(!decide (itemOf d.id r n=⟨idoc,n,ist,ien,ilv⟩))=true:=h2
      simpa using h
    rw [if_neg h2]
    (repeat (first | refine cj_seq ?_ | refine cjr TT rfl ?_ | refine oj_then ?_ | refine cj_ret ?_ | refine nj_then_ret ?_))
    refine nj_ret TT rfl fun β w' _ _=>?_
    rfl
  have h2:itemOf d.id r n=⟨idoc,n,ist,ien,ilv⟩:=by
    have h:(!decide (itemOf d.id r n=⟨idoc,n,ist,ien,ilv⟩))=false:=h2
    simpa using h
  rw [if_pos h2]
  (repeat (first | refine cj_seq ?_ | refine cj_skip ?_ | refine nj_then ?_))
  refine cj_draw [(0,.pure),(1,.quiet),(2,.pure),(3,.pure),(4,.pure),(5,.quiet),(6,.pure),(7,.quiet),(8,.pure),(9,.quiet),(10,.sink),(11,.pure)] mixed (by kernel_rfl) (oj_run TT rfl ?_)
  refine oj_idx TT rfl rfl rfl rfl rfl rfl rfl rfl rfl IX.docs (by omega) hrow (oj_run TT rfl ?_)
  refine oj_idx TT rfl rfl rfl rfl rfl rfl rfl rfl rfl hdd.1 (by dsimp only;omega) hrow2 (oj_run TT rfl ?_)
  (repeat (first | refine oj_then ?_ | refine cj_ret ?_))
  refine nj_ret TT rfl fun β w' _ _=>?_
  rfl
def scalG (g:GVal):GPart×Bool :=
  if g.kind=0 then (part0,true)
  else if g.kind=1 then (⟨1,g.b,dec0,emptyB,0⟩,true)
  else if g.kind=2 then (⟨2,false,g.n,emptyB,0⟩,true)
  else if g.kind=3 then (⟨3,false,dec0,g.s,0⟩,true)
  else (part0,false)
set_option maxRecDepth 100000 in
set_option maxHeartbeats 1000000 in
theorem Scalar_c (σ:Snap) (g:GVal) (la:Option Addr) (lc:Nat) (ma:Option Addr) (mc:Nat):PlainS Tryz.prog 184 [.agg (vCells g la lc ma mc)] σ (fun v=>v=.tuple #[.agg (paVals (scalG g).1),.bool (scalG g).2]):=by
  refine enter_p Tryz.func184 rfl rfl ⟨vCells_lt 0 _ _ _ _ _,trivial⟩ fun w=>?_
  (repeat (first | refine cj_seq ?_ | refine cjr TT rfl ?_ | refine oj_then ?_ | refine cj_block ?_))
  refine cj_if rfl (fun h=>?_) (fun h0=>?_)
  · have h:g.kind=0:=of_decide_eq_true h
    have e:scalG g=(part0,true):=by unfold scalG;rw [if_pos h]
    rw [e]
    (repeat (first | refine cj_seq ?_ | refine cjr TT rfl ?_ | refine oj_then ?_ | refine cj_ret ?_ | refine nj_then_ret ?_ | refine nj_block_ret ?_))
    refine nj_ret TT rfl fun β w' _ _=>?_
    rfl
  have h0:¬ g.kind=0:=of_decide_eq_false h0
  (repeat (first | refine cj_seq ?_ | refine cjr TT rfl ?_ | refine oj_then ?_))
  refine cj_if rfl (fun h=>?_) (fun h1=>?_)
  · have h:g.kind=1:=of_decide_eq_true h
    have e:scalG g=(⟨1,g.b,dec0,emptyB,0⟩,true):=by unfold scalG;rw [if_neg h0,if_pos h]
    rw [e]
    (repeat (first | refine cj_seq ?_ | refine cjr TT rfl ?_ | refine oj_then ?_ | refine cj_ret ?_ | refine nj_then_ret ?_ | refine nj_block_ret ?_))
    refine nj_ret TT rfl fun β w' _ _=>?_
    rfl
  have h1:¬ g.kind=1:=of_decide_eq_false h1
  (repeat (first | refine cj_seq ?_ | refine cjr TT rfl ?_ | refine oj_then ?_))
  refine cj_if rfl (fun h=>?_) (fun h2=>?_)
  · have h:g.kind=2:=of_decide_eq_true h
    have e:scalG g=(⟨2,false,g.n,emptyB,0⟩,true):=by unfold scalG;rw [if_neg h0,if_neg h1,if_pos h]
    rw [e]
    (repeat (first | refine cj_seq ?_ | refine cjr TT rfl ?_ | refine oj_then ?_ | refine cj_ret ?_ | refine nj_then_ret ?_ | refine nj_block_ret ?_))
    refine nj_ret TT rfl fun β w' _ _=>?_
    rfl
  have h2:¬ g.kind=2:=of_decide_eq_false h2
  (repeat (first | refine cj_seq ?_ | refine cjr TT rfl ?_ | refine oj_then ?_))
  refine cj_if rfl (fun h=>?_) (fun h3=>?_)
  · have h:g.kind=3:=of_decide_eq_true h
    have e:scalG g=(⟨3,false,dec0,g.s,0⟩,true):=by unfold scalG;rw [if_neg h0,if_neg h1,if_neg h2,if_pos h]
    rw [e]
    (repeat (first | refine cj_seq ?_ | refine cjr TT rfl ?_ | refine oj_then ?_ | refine cj_ret ?_ | refine nj_then_ret ?_ | refine nj_block_ret ?_))
    refine nj_ret TT rfl fun β w' _ _=>?_
    rfl
  have h3:¬ g.kind=3:=of_decide_eq_false h3
  have e:scalG g=(part0,false):=by unfold scalG;rw [if_neg h0,if_neg h1,if_neg h2,if_neg h3]
  rw [e]
  (repeat (first | refine cj_seq ?_ | refine cjr TT rfl ?_ | refine oj_then ?_ | refine cj_skip ?_ | refine cj_ret ?_ | refine nj_then ?_ | refine nj_block ?_))
  refine nj_ret TT rfl fun β w' _ _=>?_
  rfl
def pbytes (p:GPart):List UInt8:=if rightG p then putG p else []
def PbOk (σ:Snap) (l:List UInt8) (v:Value):Prop:=∃ ao cap,v=.slice ao l.length cap/\SlAt σ ao l.length cap 1 (u8Rows l)/\(l=[]->ao=none)
theorem pbytes_ne {p:GPart} (h:rightG p=true):pbytes p≠[]:=by
  unfold pbytes
  rw [if_pos h]
  exact put_ne ((right_iff p).1 h)
theorem pbytes_nil {p:GPart}:pbytes p=[]↔rightG p=false:=by
  constructor
  · intro h
    cases e:rightG p with
    | false=>rfl
    | true=>exact absurd h (pbytes_ne e)
  · intro h
    unfold pbytes
    rw [h]
    rfl
theorem encG_one (p:GPart):encG [p]=if rightG p then (putG p,0) else ([],1):=by
  unfold encG
  rw [if_neg (by show ¬ 16<1;omega)]
  simp
set_option maxRecDepth 100000 in
set_option maxHeartbeats 1000000 in
theorem part_c (σ:Snap) (m:Int) (hm:σ.cell ⟨0,0,none⟩=some (.int .i64 m)) (p:GPart) (hp:p.n.dg.size<=mostLen/\p.s.size<=1000000) :
    PureS Tryz.prog 117 [.agg (paCells p)] σ (fun v σ'=>PbOk σ' (pbytes p) v):=by
  refine enter_s Tryz.func117 rfl rfl ⟨paCells_lt 0 p,trivial⟩ fun w=>?_
  (repeat (first | refine cj_seq ?_ | refine cjr TT rfl ?_ | refine oj_then ?_))
  refine oj_own 1 1 7 rfl (paCells_lt 0 _) rfl (by decide) fun g5=>?_
  refine oj_seal 0 rfl rfl rfl fun s1 hle1 hS=>?_
  have HP:SlAt s1 (some ⟨g5,0,none⟩) ([p]:List GPart).length 1 7 (paRows [p]):=pa_sealed (t:=99) (l:=[p]) hS (Nat.le_refl _)
  have hE:=Encode_c s1 m (hle1.cell hm) [p] (by show 1<=_;omega) (fun q hq=>by rw [List.mem_singleton] at hq;subst hq;exact hp) _ _ HP
  rw [encG_one] at hE
  by_cases h:rightG p=true
  · rw [if_pos h] at hE
    have e:pbytes p=putG p:=by unfold pbytes;rw [if_pos h]
    rw [e]
    have hne:=put_ne ((right_iff p).1 h)
    refine oj_callS rfl rfl rfl rfl rfl Tryz.call182 ⟨trivial,trivial⟩ hE fun v s2 hle2 ⟨bo,bc,hv,HE⟩=>⟨.tup [.a (.v (.slice bo (putG p).length bc)),.a (.v (.int .i64 0))],(by (repeat' (first | exact trivial | refine SV.lt_tup ?_ | constructor))),hv.symm,?_⟩
    refine oj_run TT rfl ?_
    (repeat (first | refine cj_seq ?_ | refine cjr TT rfl ?_ | refine oj_then ?_))
    refine cj_if rfl (fun h=>absurd h (by decide)) (fun _=>?_)
    (repeat (first | refine cj_seq ?_ | refine cjr TT rfl ?_ | refine oj_then ?_ | refine cj_skip ?_ | refine cj_ret ?_ | refine nj_then ?_))
    refine nj_ret TT rfl fun β w' _ _=>?_
    exact ⟨bo,bc,rfl,HE,fun h=>absurd h hne⟩
  · have h:rightG p=false:=by simpa using h
    rw [h,if_neg (by decide)] at hE
    rw [pbytes_nil.2 h]
    refine oj_callS rfl rfl rfl rfl rfl Tryz.call182 ⟨trivial,trivial⟩ hE fun v s2 hle2 ⟨bo,bc,hv,HE⟩=>⟨.tup [.a (.v (.slice bo 0 bc)),.a (.v (.int .i64 1))],(by (repeat' (first | exact trivial | refine SV.lt_tup ?_ | constructor))),hv.symm,?_⟩
    refine oj_run TT rfl ?_
    (repeat (first | refine cj_seq ?_ | refine cjr TT rfl ?_ | refine oj_then ?_))
    refine cj_if rfl (fun _=>?_) (fun h=>absurd h (by decide))
    (repeat (first | refine cj_seq ?_ | refine cjr TT rfl ?_ | refine oj_then ?_ | refine cj_ret ?_ | refine nj_then_ret ?_))
    refine nj_ret TT rfl fun β w' _ _=>?_
    exact ⟨none,0,rfl,SlAt.nil _ none 0 1,fun _=>rfl⟩
def partR (r:GRec):GPart×Bool:=scalG (GVal.mk r.kd r.b r.n r.s [] [] [])
def ixB (ds:List GDoc) (it:GItem):List UInt8 :=
  match recAt ds it with
  | none=>[]
  | some r=>if (partR r).2 then pbytes (partR r).1 else []
theorem scal_fit (g:GVal) (h1:g.n.dg.size<=mostLen) (h2:g.s.size<=1000000):(scalG g).1.n.dg.size<=mostLen/\(scalG g).1.s.size<=1000000:=by
  unfold scalG
  by_cases k0:g.kind=0
  · rw [if_pos k0];exact ⟨Nat.zero_le _,Nat.zero_le _⟩
  rw [if_neg k0]
  by_cases k1:g.kind=1
  · rw [if_pos k1];exact ⟨Nat.zero_le _,Nat.zero_le _⟩
  rw [if_neg k1]
  by_cases k2:g.kind=2
  · rw [if_pos k2];exact ⟨h1,Nat.zero_le _⟩
  rw [if_neg k2]
  by_cases k3:g.kind=3
  · rw [if_pos k3];exact ⟨Nat.zero_le _,h2⟩
  rw [if_neg k3]
  exact ⟨Nat.zero_le _,Nat.zero_le _⟩
theorem partR_fit (r:GRec) (h1:r.n.dg.size<=mostLen) (h2:r.s.size<=1000000):(partR r).1.n.dg.size<=mostLen/\(partR r).1.s.size<=1000000:=scal_fit _ h1 h2
def FitIx (X:GIx):Prop:=∀ d∈X.ds,∀ r∈d.L,r.n.dg.size<=mostLen/\r.s.size<=1000000
theorem recAt_mem {ds:List GDoc} {it:GItem} {r:GRec} (h:recAt ds it=some r):∃ d∈ds,r∈d.L:=by
  unfold recAt at h
  cases hf:ds.find? fun d=>decide (d.id=it.doc) with
  | none=>rw [hf] at h;cases h
  | some d =>
    rw [hf] at h
    have h:recIn it d=some r:=h
    refine ⟨d,List.mem_of_find?_eq_some hf,?_⟩
    unfold recIn at h
    split at h
    · cases h
    split at h
    · cases h
    · rename_i x hx
      split at h
      · injection h with h
        subst h
        exact List.mem_of_getElem? hx
      · cases h
set_option maxRecDepth 100000 in
set_option maxHeartbeats 2000000 in
theorem ixBytes_c (σ:Snap) (m:Int) (hm:σ.cell ⟨0,0,none⟩=some (.int .i64 m)) (X:GIx) (IX:IxAt σ X) (hl:X.ds.length<=1000000) (ho:X.ds.Pairwise fun x y=>x.id<y.id) (hF:FitIx X) (it:GItem) :
    PureS Tryz.prog 121 [.agg (ixCells X),.agg (itCells it)] σ (fun v σ'=>PbOk σ' (ixB X.ds it) v):=by
  have hR:=record_c σ X IX hl ho it
  have hmem:=fun r=>recAt_mem (ds:=X.ds) (it:=it) (r:=r)
  unfold ixB
  generalize recAt X.ds it=o at *
  refine enter_s Tryz.func121 rfl rfl ⟨ixCells_lt 0 X,itCells_lt 0 it,trivial⟩ fun w=>?_
  (repeat (first | refine cj_seq ?_ | refine cjr TT rfl ?_ | refine oj_then ?_))
  refine oj_set 10 (.agg (ixCells X)) rfl (ixCells_lt _ _) (fun _=>rfl) ?_
  refine oj_set 11 (.agg (itCells it)) rfl (itCells_lt _ _) (fun _=>rfl) ?_
  refine oj_callP (ys:=[.agg (ixCells X),.agg (itCells it)]) rfl rfl rfl rfl rfl Tryz.call101 ⟨ixCells_lt 0 X,itCells_lt 0 it,trivial⟩ hR fun v hv=>⟨.tup [.agg (recCells (o.getD recZ)),.a (.b o.isSome)],(by intro x hx;simp only [List.mem_cons,List.not_mem_nil,or_false] at hx;rcases hx with rfl | rfl;exact recCells_lt 0 _;trivial),hv.symm,?_⟩
  refine oj_run TT rfl ?_
  (repeat (first | refine cj_seq ?_ | refine cjr TT rfl ?_ | refine oj_then ?_))
  refine oj_callP (ys:=[.agg (vCells (GVal.mk (o.getD recZ).kd (o.getD recZ).b (o.getD recZ).n (o.getD recZ).s [] [] []) none 0 none 0)]) rfl rfl rfl rfl rfl Tryz.call184 ⟨vCells_lt 0 _ _ _ _ _,trivial⟩ (Scalar_c σ (GVal.mk (o.getD recZ).kd (o.getD recZ).b (o.getD recZ).n (o.getD recZ).s [] [] []) none 0 none 0) fun v hv=>⟨.tup [.agg (paCells (partR (o.getD recZ)).1),.a (.b (partR (o.getD recZ)).2)],(by intro x hx;simp only [List.mem_cons,List.not_mem_nil,or_false] at hx;rcases hx with rfl | rfl;exact paCells_lt 0 _;trivial),hv.symm,?_⟩
  refine oj_run TT rfl ?_
  (repeat (first | refine cj_seq ?_ | refine cjr TT rfl ?_ | refine oj_then ?_))
  cases o with
  | none =>
    refine oj_split 30 rfl (fun _=>?_) (fun h=>absurd h (by simp))
    refine oj_run TT rfl ?_
    (repeat (first | refine cj_seq ?_ | refine cjr TT rfl ?_ | refine oj_then ?_ | refine cj_if_t rfl ?_ | refine cj_ret ?_ | refine nj_then_ret ?_))
    refine nj_ret TT rfl fun β w' _ _=>?_
    exact ⟨none,0,rfl,SlAt.nil _ none 0 1,fun _=>rfl⟩
  | some r =>
    obtain ⟨d,hd,hr⟩:=hmem r rfl
    obtain ⟨f1,f2⟩:=hF d hd r hr
    refine oj_split 30 rfl (fun h=>absurd h (by simp)) (fun _=>?_)
    refine oj_run TT rfl ?_
    (repeat refine oj_then ?_)
    have hfit:=partR_fit r f1 f2
    dsimp only [Option.getD_some]
    generalize partR r=z at *
    obtain ⟨p,ok⟩:=z
    refine cj_if rfl (fun h=>?_) (fun h=>?_)
    · have h:ok=false:=by simpa using h
      subst h
      (repeat (first | refine cj_seq ?_ | refine cjr TT rfl ?_ | refine oj_then ?_ | refine cj_ret ?_ | refine nj_then_ret ?_))
      refine nj_ret TT rfl fun β w' _ _=>?_
      exact ⟨none,0,rfl,SlAt.nil _ none 0 1,fun _=>rfl⟩
    have h:ok=true:=by simpa using h
    subst h
    (repeat (first | refine cj_seq ?_ | refine cjr TT rfl ?_ | refine cj_skip ?_ | refine nj_then ?_))
    refine oj_set 34 (.agg (paCells p)) rfl (paCells_lt _ _) (fun _=>rfl) ?_
    refine oj_callS (ys:=[.agg (paCells p)]) rfl rfl rfl rfl rfl Tryz.call117 ⟨paCells_lt 0 p,trivial⟩ (part_c σ m hm p hfit) fun v s1 hle1 ⟨ao,cap,hv,HP,hn⟩=>⟨.a (.v (.slice ao (pbytes p).length cap)),trivial,hv.symm,?_⟩
    refine oj_run TT rfl ?_
    (repeat (first | refine oj_then ?_ | refine cj_ret ?_))
    refine nj_ret TT rfl fun β w' _ _=>?_
    exact ⟨ao,cap,rfl,HP,hn⟩
end Go.Sy
namespace Go.Sy
open Go.Proofs
set_option maxRecDepth 100000 in
set_option maxHeartbeats 4000000 in
theorem on_f (σ:Snap) (X:GIx) (IX:IxAt σ X) (hl:X.ds.length<=1000) (hd:∀ d∈X.ds,d.ids.length=d.L.length/\d.L.length<=100000) (f:FuncId) (caps:List PT) (hcap:LtAll (caps.map ptSV))
    (hcall:∀ args w,(callFunc f args).run Tryz.prog w=.ok (.enter f args) w) (hlt:(SV.a (.fn (.func f) caps)).lt 0) (q:Int->Bool) (hq:∀ k:Int,PlainS Tryz.prog f (.a (.v (.int .i64 k))::caps.map ptSV) σ (fun v=>v=.bool (q k))) :
    FnS Tryz.prog 83 [.agg (ixCells X),.a (.fn (.func f) caps)] σ [] (fun v _ A'=>∃ oo oc,v=.slice oo (onG q X.ds).length oc/\(onG q X.ds).length<=oc/\A'=[itE oo oc (onG q X.ds)]):=by
  have hlt1:=SV.lt_mono (Nat.zero_le 1) hlt
  have hlt3:=SV.lt_mono (Nat.zero_le 3) hlt
  refine enter_f Tryz.func83 rfl rfl ⟨ixCells_lt 0 X,hlt,trivial⟩ fun w=>?_
  (repeat (first | refine cj_seq ?_ | refine cjr TT rfl ?_ | refine oj_then ?_))
  refine oj_mm rfl rfl rfl rfl rfl rfl rfl (oj_run TT rfl ?_)
  refine oj_slice_to TT X.ds.length rfl rfl rfl rfl rfl rfl rfl rfl rfl (by show (if (X.ds.length:Int)<X.ds.length then _ else _)=_;split<;>rfl) IX.docs.ncap IX.docs.ncap (oj_run TT rfl ?_)
  refine oj_then ?_
  refine cj_nilarr 71 5 ?_
  (repeat refine cj_block ?_)
  refine cj_loop (fun (_:OnS)=>σ) (fun t=>[(1,.a (.fn (.func f) caps)),(2,.a (.p 0 0)),(5,.a (.v (.slice t.oo t.o.length t.oc))),(19,.a (.v (.slice X.o X.ds.length X.c))),(20,.a (.v (.int .i64 X.ds.length))),(21,.a (.v (.int .i64 (t.k:Nat))))])
    (fun _=>[(0,.loc 60,ixCells X)]) (fun t=>[itE t.oo t.oc t.o]) 1 (fun t=>t.k<=X.ds.length/\t.o=onG q (X.ds.take t.k)/\t.o.length<=t.oc/\t.o.length<=t.k*100000) (fun t=>X.ds.length - t.k) ⟨0,[],none,0⟩
    ⟨Nat.zero_le _,rfl,Nat.le_refl _,Nat.zero_le _⟩ rfl (by (repeat first | exact trivial | refine ⟨rfl,?_⟩)) (by (repeat first | exact trivial | refine ⟨rfl,?_⟩)) rfl ⟨hlt1,Nat.zero_lt_one,trivial,trivial,trivial,trivial,trivial⟩ (by exact ⟨⟨Nat.zero_lt_one,ixCells_lt 1 X⟩,trivial⟩) fun ⟨k,o,oo,oc⟩ ⟨hk,ho,hoc,hol⟩=>?_
  dsimp only at hk ho hoc hol ⊢
  (repeat (first | refine cj_seq ?_ | refine cjr TT rfl ?_ | refine oj_then ?_))
  refine cj_if rfl (fun h=>?_) (fun h=>?_)
  rotate_left
  · have hk0:k=X.ds.length:=by have:=of_decide_eq_false h;omega
    rw [hk0,List.take_length] at ho
    subst ho
    (repeat (first | refine cj_seq ?_ | refine cjr TT rfl ?_ | refine oj_then ?_ | refine cj_exit ?_ | refine cj_ret ?_ | refine nj_then ?_ | refine nj_then_exit ?_ | refine nj_block_out ?_))
    refine nj_fret TT rfl fun β w' _ _=>?_
    exact ⟨oo,oc,rfl,hoc,rfl⟩
  have hkl:k<X.ds.length:=by have:=of_decide_eq_true h;omega
  have hdk:=List.getElem?_eq_getElem hkl
  have hrow:=doRows_get hdk
  have hrow2:=liRows_get hdk
  have hdm:=hd X.ds[k] (List.getElem_mem hkl)
  have hdd:=IX.doc X.ds[k] (List.getElem_mem hkl)
  have hnext:=onG_succ (q:=q) hdk
  rw [<-ho] at hnext
  generalize X.ds[k]=d at *
  obtain ⟨hdi,hdl⟩:=hdm
  (repeat (first | refine cj_seq ?_ | refine cjr TT rfl ?_ | refine cj_skip ?_ | refine cj_block ?_ | refine nj_then ?_))
  refine oj_idx TT rfl rfl rfl rfl rfl rfl rfl rfl rfl IX.docs (by omega) hrow (oj_run TT rfl ?_)
  (repeat (first | refine cj_seq ?_ | refine cjr TT rfl ?_ | refine oj_then ?_))
  refine oj_idx TT rfl rfl rfl rfl rfl rfl rfl rfl rfl IX.lines (by omega) hrow2 (oj_run TT rfl ?_)
  (repeat (first | refine oj_then ?_ | refine cj_block ?_))
  refine cj_loop (fun (_:OnS)=>σ) (fun t=>[(1,.a (.fn (.func f) caps)),(2,.a (.p 0 0)),(5,.a (.v (.slice t.oo t.o.length t.oc))),(7,.a (.p 2 0)),(19,.a (.v (.slice X.o X.ds.length X.c))),(20,.a (.v (.int .i64 X.ds.length))),(21,.a (.v (.int .i64 k))),(30,.a (.v (.slice d.lo d.ids.length d.lcap))),(31,.a (.v (.int .i64 d.ids.length))),(32,.a (.v (.int .i64 (t.k:Nat))))])
    (fun _=>[(0,.loc 60,ixCells X),(2,.loc 90,doCells d)]) (fun t=>[itE t.oo t.oc t.o]) 3 (fun t=>t.k<=d.ids.length/\t.o=o++onP q d t.k/\t.o.length<=t.oc) (fun t=>d.ids.length - t.k) ⟨0,o,oo,oc⟩
    ⟨Nat.zero_le _,(List.append_nil o).symm,hoc⟩ rfl (by (repeat first | exact trivial | refine ⟨rfl,?_⟩)) (by (repeat first | exact trivial | refine ⟨rfl,?_⟩)) rfl ⟨hlt3,by show 0<3;omega,trivial,by show 2<3;omega,trivial,trivial,trivial,trivial,trivial,trivial,trivial⟩ (by exact ⟨⟨by omega,ixCells_lt 3 X⟩,⟨by omega,doCells_lt 3 d⟩,trivial⟩) fun ⟨j,o1,oo,oc⟩ ⟨hj,ho1,hoc⟩=>?_
  dsimp only at hj ho1 hoc ⊢
  have hpl:=onP_len q d j
  have hlen1:o1.length=o.length+(onP q d j).length:=by rw [ho1,List.length_append]
  (repeat (first | refine cj_seq ?_ | refine cjr TT rfl ?_ | refine oj_then ?_))
  refine cj_if rfl (fun h=>?_) (fun h=>?_)
  rotate_left
  · have hj0:j=d.ids.length:=by have:=of_decide_eq_false h;omega
    subst hj0
    rw [onP_all q d hdi] at ho1
    (repeat (first | refine cjr TT rfl ?_ | refine oj_nil ?_ | refine cj_exit ?_ | refine nj_then ?_ | refine nj_then_exit ?_ | refine nj_block ?_ | refine nj_block_out ?_ | (refine oj_add rfl rfl rfl rfl rfl rfl (by omega) ?_;refine oj_run TT rfl ?_)))
    refine nj_again (⟨k+1,o1,oo,oc⟩:OnS) ⟨hkl,by dsimp only;rw [hnext,ho1],hoc,by dsimp only;rw [Nat.succ_mul];omega⟩ (by dsimp only;omega) rfl (by (repeat first | exact trivial | refine ⟨rfl,?_⟩)) (by (repeat first | exact trivial | refine ⟨rfl,?_⟩)) rfl ⟨hlt1,Nat.zero_lt_one,trivial,trivial,trivial,trivial,trivial⟩ (by exact ⟨⟨Nat.zero_lt_one,ixCells_lt 1 X⟩,trivial⟩)
  have hjl:j<d.ids.length:=by have:=of_decide_eq_true h;omega
  have hkj:=List.getElem?_eq_getElem hjl
  have hrj:d.L[j]?=some (d.L[j]'(by omega)):=List.getElem?_eq_getElem (by omega)
  have hrow3:=idRows_get hkj
  have hit:=item_c σ d hdd.1 j _ hrj
  have hsucc:=onP_succ (q:=q) hkj hrj
  generalize d.ids[j]=x at *
  generalize d.L[j]'(by omega)=r at *
  (repeat (first | refine cj_seq ?_ | refine cjr TT rfl ?_ | refine cj_skip ?_ | refine cj_block ?_ | refine nj_then ?_))
  refine oj_idx TT rfl rfl rfl rfl rfl rfl rfl rfl rfl hdd.2 (by omega) hrow3 (oj_run TT rfl ?_)
  (repeat (first | refine cj_seq ?_ | refine cjr TT rfl ?_ | refine oj_then ?_))
  refine oj_split 42 rfl (fun _=>?_) (fun h=>absurd (of_decide_eq_false (show decide ((j:Int)<d.L.length)=false from h)) (by omega))
  refine oj_run TT rfl ?_
  refine oj_callP (ys:=.a (.v (.int .i64 x))::caps.map ptSV) rfl rfl rfl rfl rfl hcall ⟨trivial,hcap⟩ (hq x) fun v hv=>⟨.a (.b (q x)),trivial,hv.symm,?_⟩
  refine oj_run TT rfl ?_
  (repeat refine oj_then ?_)
  refine cj_if rfl (fun h=>?_) (fun h=>?_)
  · have h:q x=true:=h
    rw [h,if_pos rfl] at hsucc
    (repeat refine cjr TT rfl ?_)
    refine oj_set 48 (.agg (doCells d)) rfl (doCells_lt _ _) (fun _=>rfl) ?_
    refine oj_callP (ys:=[.agg (doCells d),.a (.v (.int .i64 j))]) rfl rfl rfl rfl rfl Tryz.call103 ⟨doCells_lt 0 d,trivial,trivial⟩ hit fun v hv=>⟨.agg (itCells (itemOf d.id r j)),itCells_lt _ _,hv.symm,?_⟩
    refine oj_run TT rfl ?_
    refine oj_append_lit TT 0 rfl rfl rfl rfl rfl rfl rfl rfl rfl rfl rfl rfl rfl rfl rfl rfl rfl rfl (itCells_lt 0 _) rfl (by omega) (by show (o1.length+1)*40<=_;omega) fun oo' oc' hoc'=>oj_run TT rfl ?_
    (repeat (first | refine cjr TT rfl ?_ | refine oj_nil ?_ | refine nj_then ?_ | refine nj_block ?_ | (refine oj_add rfl rfl rfl rfl rfl rfl (by omega) ?_;refine oj_run TT rfl ?_)))
    have hl1:(o1++[itemOf d.id r j]).length=o1.length+1:=by simp
    refine nj_again (⟨j+1,o1++[itemOf d.id r j],oo',oc'⟩:OnS) ⟨hjl,by dsimp only;rw [hsucc,ho1,List.append_assoc],by dsimp only;omega⟩ (by dsimp only;omega) rfl ?_ (by (repeat first | exact trivial | refine ⟨rfl,?_⟩)) ?_ ⟨hlt3,by show 0<3;omega,trivial,by show 2<3;omega,trivial,trivial,trivial,trivial,trivial,trivial,trivial⟩ (by exact ⟨⟨by omega,ixCells_lt 3 X⟩,⟨by omega,doCells_lt 3 d⟩,trivial⟩)
    · dsimp only
      rw [hl1]
      (repeat first | exact trivial | refine ⟨rfl,?_⟩)
    · show [_]=[_]
      dsimp only
      unfold itE
      rw [hl1,<-itXs_push]
      rfl
  · have h:q x=false:=h
    rw [h,if_neg (by decide),List.append_nil] at hsucc
    (repeat (first | refine cjr TT rfl ?_ | refine oj_nil ?_ | refine cj_skip ?_ | refine nj_then ?_ | refine nj_block ?_ | (refine oj_add rfl rfl rfl rfl rfl rfl (by omega) ?_;refine oj_run TT rfl ?_)))
    refine nj_again (⟨j+1,o1,oo,oc⟩:OnS) ⟨hjl,by dsimp only;rw [hsucc];exact ho1,hoc⟩ (by dsimp only;omega) rfl (by (repeat first | exact trivial | refine ⟨rfl,?_⟩)) (by (repeat first | exact trivial | refine ⟨rfl,?_⟩)) rfl ⟨hlt3,by show 0<3;omega,trivial,by show 2<3;omega,trivial,trivial,trivial,trivial,trivial,trivial,trivial⟩ (by exact ⟨⟨by omega,ixCells_lt 3 X⟩,⟨by omega,doCells_lt 3 d⟩,trivial⟩)
set_option maxRecDepth 100000 in
set_option maxHeartbeats 1000000 in
theorem Of1_c (σ:Snap) (g:Nat) (line:Int) (hg:σ.cell ⟨g,0,none⟩=some (.int .i64 line)) (k:Int) :
    PlainS Tryz.prog 165 [.a (.v (.int .i64 k)),.a (.v (.pointer (some ⟨g,0,none⟩)))] σ (fun v=>v=.bool (decide (k=line))):=by
  refine enter_p Tryz.func165 rfl rfl (by (repeat' (first | exact trivial | constructor))) fun w=>?_
  (repeat (first | refine cj_seq ?_ | refine cjr TT rfl ?_ | refine oj_then ?_))
  refine oj_ldS (c:=.v (.int .i64 line)) TT rfl rfl rfl rfl rfl rfl rfl rfl hg trivial (oj_run TT rfl ?_)
  (repeat (first | refine oj_then ?_ | refine cj_ret ?_))
  refine nj_ret TT rfl fun β w' _ _=>?_
  rfl
set_option maxRecDepth 100000 in
set_option maxHeartbeats 2000000 in
theorem Of_f (σ:Snap) (X:GIx) (IX:IxAt σ X) (hl:X.ds.length<=1000) (hd:∀ d∈X.ds,d.ids.length=d.L.length/\d.L.length<=100000) (line:Int) :
    FnS Tryz.prog 100 [.agg (ixCells X),.a (.v (.int .i64 line))] σ [] (fun v _ A'=>∃ oo oc,v=.slice oo (onG (fun k=>decide (k=line)) X.ds).length oc/\(onG (fun k=>decide (k=line)) X.ds).length<=oc/\A'=[itE oo oc (onG (fun k=>decide (k=line)) X.ds)]):=by
  refine enter_f Tryz.func100 rfl rfl ⟨ixCells_lt 0 X,trivial,trivial⟩ fun w=>?_
  (repeat (first | refine cj_seq ?_ | refine cjr TT rfl ?_ | refine oj_then ?_))
  refine oj_own 1 1 1 rfl (by (repeat' (first | exact trivial | refine AllLt.of ?_ | constructor))) rfl (by decide) fun g=>?_
  refine oj_seal 0 rfl rfl rfl fun s1 hle1 hS=>?_
  have hg:=cell1_of hS
  have IX:=IX.mono hle1
  refine oj_set 5 (.agg (ixCells X)) rfl (ixCells_lt _ _) (fun _=>rfl) ?_
  refine oj_callF [] (A0:=[]) (Ar:=[]) (ys:=[.agg (ixCells X),.a (.fn (.func 165) [.val (.pointer (some ⟨g,0,none⟩))])]) rfl rfl rfl rfl rfl rfl rfl Tryz.call83 ⟨ixCells_lt 0 X,fnLt1 165 g,trivial⟩ (on_f s1 X IX hl hd 165 [.val (.pointer (some ⟨g,0,none⟩))] ⟨trivial,trivial⟩ Tryz.call165 (fnLt1 165 g) (fun k=>decide (k=line)) fun k=>Of1_c s1 g line hg k) fun v s2 A' hle2 ⟨oo,oc,hv,hoc,hA⟩=>⟨.a (.v (.slice oo (onG (fun k=>decide (k=line)) X.ds).length oc)),trivial,hv.symm,?_⟩
  subst hA
  refine oj_run TT rfl ?_
  (repeat (first | refine oj_then ?_ | refine cj_ret ?_))
  refine nj_fret TT rfl fun β w' _ _=>?_
  exact ⟨oo,oc,rfl,hoc,rfl⟩
def FirstAt (q:GItem->Bool) (l:List GItem) (i:Int):Prop:=(i = -1/\∀ y∈l,q y=false)\/∃ (n:Nat) (x:GItem),i=n/\l[n]?=some x/\q x=true/\∀ y∈l.take n,q y=false
set_option maxRecDepth 100000 in
set_option maxHeartbeats 1000000 in
theorem IndexFuncIt_c (σ:Snap) (S:List GItem) (hl:S.length<=100000000) (so:Option Addr) (sc:Nat) (H:SlAt σ so S.length sc 5 (itRows S)) (f:FuncId) (caps:List PT) (hcap:LtAll (caps.map ptSV))
    (hcall:∀ args w,(callFunc f args).run Tryz.prog w=.ok (.enter f args) w) (hlt:(SV.a (.fn (.func f) caps)).lt 0) (q:GItem->Bool) (hq:∀ z∈S,PlainS Tryz.prog f (.agg (itCells z)::caps.map ptSV) σ (fun v=>v=.bool (q z))) :
    PlainS Tryz.prog 183 [.a (.v (.slice so S.length sc)),.a (.fn (.func f) caps)] σ (fun v=>∃ i:Int,v=.int .i64 i/\FirstAt q S i):=by
  refine enter_p Tryz.func183 rfl rfl ⟨trivial,hlt,trivial⟩ fun w=>?_
  (repeat (first | refine cj_seq ?_ | refine cjr TT rfl ?_ | refine oj_then ?_ | refine cj_block ?_))
  refine cj_loop (fun (_:Nat)=>σ) (fun k=>[(0,.a (.v (.slice so S.length sc))),(1,.a (.fn (.func f) caps)),(7,.a (.v (.int .i64 S.length))),(8,.a (.v (.int .i64 k)))]) (fun _=>[]) (fun _=>[]) 0 (fun k=>k<=S.length/\∀ y∈S.take k,q y=false) (fun k=>S.length - k) 0 ⟨Nat.zero_le _,fun y hy=>(by cases hy)⟩ rfl (by (repeat first | exact trivial | refine ⟨rfl,?_⟩)) (by (repeat first | exact trivial | refine ⟨rfl,?_⟩)) rfl ⟨trivial,hlt,trivial,trivial,trivial⟩ trivial fun k ⟨hk,hp⟩=>?_
  (repeat (first | refine cj_seq ?_ | refine cjr TT rfl ?_ | refine oj_then ?_))
  refine cj_if rfl (fun h=>?_) (fun h=>?_)
  rotate_left
  · have hk0:k=S.length:=by have:=of_decide_eq_false h;omega
    rw [hk0,List.take_length] at hp
    (repeat (first | refine cj_seq ?_ | refine cjr TT rfl ?_ | refine oj_then ?_ | refine cj_exit ?_ | refine cj_ret ?_ | refine nj_then ?_ | refine nj_then_exit ?_ | refine nj_block_out ?_))
    refine nj_ret TT rfl fun β w' _ _=>?_
    exact ⟨-1,rfl,.inl ⟨rfl,hp⟩⟩
  have hkl:k<S.length:=by have:=of_decide_eq_true h;omega
  have hx:=List.getElem?_eq_getElem hkl
  have hrow:=itRows_get hx
  have hqz:=hq S[k] (List.getElem_mem hkl)
  have htk:S.take (k+1)=S.take k++[S[k]]:=List.take_succ_eq_append_getElem hkl
  generalize S[k]=z at *
  (repeat (first | refine cj_seq ?_ | refine cjr TT rfl ?_ | refine oj_then ?_ | refine cj_skip ?_ | refine cj_block ?_ | refine nj_then ?_))
  refine oj_idx TT rfl rfl rfl rfl rfl rfl rfl rfl rfl H (by omega) hrow (oj_run TT rfl ?_)
  refine oj_callP (ys:=.agg (itCells z)::caps.map ptSV) rfl rfl rfl rfl rfl hcall ⟨itCells_lt 0 z,hcap⟩ hqz fun v hv=>⟨.a (.b (q z)),trivial,hv.symm,?_⟩
  refine oj_run TT rfl ?_
  (repeat refine oj_then ?_)
  refine cj_if rfl (fun h=>?_) (fun h=>?_)
  · have h:q z=true:=h
    (repeat (first | refine cj_seq ?_ | refine cjr TT rfl ?_ | refine oj_then ?_ | refine cj_ret ?_ | refine nj_then_ret ?_ | refine nj_block_ret ?_))
    refine nj_ret TT rfl fun β w' _ _=>?_
    exact ⟨(k:Int),rfl,.inr ⟨k,z,rfl,hx,h,hp⟩⟩
  · have h:q z=false:=h
    (repeat (first | refine cjr TT rfl ?_ | refine oj_nil ?_ | refine cj_skip ?_ | refine nj_then ?_ | refine nj_block ?_ | (refine oj_add rfl rfl rfl rfl rfl rfl (by omega) ?_;refine oj_run TT rfl ?_)))
    refine nj_again (k+1) ⟨hkl,fun y hy=>?_⟩ (by omega) rfl (by (repeat first | exact trivial | refine ⟨rfl,?_⟩)) (by (repeat first | exact trivial | refine ⟨rfl,?_⟩)) rfl ⟨trivial,hlt,trivial,trivial,trivial⟩ trivial
    rw [htk] at hy
    rcases List.mem_append.1 hy with hy | hy
    · exact hp y hy
    · rw [List.mem_singleton] at hy
      rw [hy]
      exact h
theorem itXs_cons (x:GItem) (l:List GItem):itXs (x::l)=(itCells x).map AT.val++itXs l:=by simp [itXs,itRows]
theorem itXs_set:∀ {l:List GItem} {i:Nat} (x:GItem),i<l.length->(itXs l).take (i*5)++(itCells x).map AT.val++(itXs l).drop (i*5+5)=itXs (l.set i x)
  | [],_,_,h=>by simp at h
  | y::l,0,x,_=>by
    rw [List.set_cons_zero,itXs_cons,itXs_cons]
    rfl
  | y::l,i+1,x,h=>by
    have ih:=itXs_set (l:=l) (i:=i) x (by simpa using h)
    rw [List.set_cons_succ,itXs_cons,itXs_cons,<-ih]
    have e1:(i+1)*5=(List.map AT.val (itCells y)).length+i*5:=by simp [itCells];omega
    rw [e1,Nat.add_assoc,List.take_length_add_append,List.drop_length_add_append]
    simp only [List.append_assoc]
structure DfAt (p:GItem->Bool) (l cur:List GItem) (i j:Nat):Prop where
  ij:i<j
  jl:j<=l.length
  len:cur.length=l.length
  kept:cur.take i=(l.take j).filter p
  rest:cur.drop j=l.drop j
theorem DfAt.start {q:GItem->Bool} {l:List GItem} {n:Nat} {x:GItem} (hx:l[n]?=some x) (hq:q x=true) (h:∀ y∈l.take n,q y=false):DfAt (fun x=>!q x) l l n (n+1):=by
  obtain ⟨hn,he⟩:=List.getElem?_eq_some_iff.1 hx
  refine ⟨Nat.lt_succ_self n,hn,rfl,?_,rfl⟩
  rw [List.take_succ_eq_append_getElem hn,he,List.filter_append,List.filter_eq_self.2 (fun y hy=>by simp [h y hy])]
  simp [hq]
theorem DfAt.get {p:GItem->Bool} {l cur:List GItem} {i j:Nat} {x:GItem} (h:DfAt p l cur i j) (hx:l[j]?=some x):cur[j]?=some x:=by
  have:=congrArg (·[0]?) h.rest
  simpa [List.getElem?_drop,hx] using this
theorem DfAt.skip {p:GItem->Bool} {l cur:List GItem} {i j:Nat} {x:GItem} (h:DfAt p l cur i j) (hx:l[j]?=some x) (hp:p x=false):DfAt p l cur i (j+1):=by
  obtain ⟨hj,he⟩:=List.getElem?_eq_some_iff.1 hx
  refine ⟨by have:=h.ij;omega,hj,h.len,?_,?_⟩
  · rw [h.kept,List.take_succ_eq_append_getElem hj,he,List.filter_append]
    simp [hp]
  · have:=congrArg List.tail h.rest
    rwa [List.tail_drop,List.tail_drop] at this
theorem DfAt.keep {p:GItem->Bool} {l cur:List GItem} {i j:Nat} {x:GItem} (h:DfAt p l cur i j) (hx:l[j]?=some x) (hp:p x=true):DfAt p l (cur.set i x) (i+1) (j+1):=by
  obtain ⟨hj,he⟩:=List.getElem?_eq_some_iff.1 hx
  have hij:=h.ij
  have hl:=h.len
  refine ⟨by omega,hj,by rw [List.length_set,hl],?_,?_⟩
  · have hi:i<(cur.set i x).length:=by rw [List.length_set];omega
    rw [List.take_succ_eq_append_getElem hi,List.getElem_set_self,List.take_set_of_le (Nat.le_refl i),h.kept,List.take_succ_eq_append_getElem hj,he,List.filter_append]
    simp [hp]
  · rw [List.drop_set_of_lt (by omega)]
    have:=congrArg List.tail h.rest
    rwa [List.tail_drop,List.tail_drop] at this
structure DfS where
  i:Nat
  j:Nat
  cur:List GItem
set_option maxRecDepth 100000 in
set_option maxHeartbeats 4000000 in
theorem DeleteFunc_c (σ:Snap) (l:List GItem) (hl:l.length<=100000000) (so:Option Addr) (sc:Nat) (hsc:l.length<=sc) (f:FuncId) (caps:List PT) (hcap:LtAll (caps.map ptSV))
    (hcall:∀ args w,(callFunc f args).run Tryz.prog w=.ok (.enter f args) w) (hlt:(SV.a (.fn (.func f) caps)).lt 0) (q:GItem->Bool) (hq:∀ s,σ.le s->∀ z,PlainS Tryz.prog f (.agg (itCells z)::caps.map ptSV) s (fun v=>v=.bool (q z))) :
    FnS Tryz.prog 118 [.a (.v (.slice so l.length sc)),.a (.fn (.func f) caps)] σ [itE so sc l] (fun v _ A'=>∃ to tc,v=.slice to (l.filter fun x=>!q x).length tc/\(l.filter fun x=>!q x).length<=tc/\A'=[itE to tc (l.filter fun x=>!q x)]):=by
  refine enter_f Tryz.func118 rfl rfl ⟨trivial,hlt,trivial⟩ fun w=>?_
  (repeat (first | refine cj_seq ?_ | refine cjr TT rfl ?_ | refine oj_then ?_))
  refine oj_peekP rfl rfl rfl rfl rfl Tryz.call183 ⟨trivial,hlt,trivial⟩ (fun σ' hle hA=>IndexFuncIt_c σ' l hl so sc (it_sealed (hA 0 _ rfl) hsc) f caps hcap hcall hlt q fun z _=>hq σ' hle z) fun v ⟨r,hv,hr⟩=>⟨.a (.v (.int .i64 r)),trivial,hv.symm,?_⟩
  refine oj_run TT rfl ?_
  (repeat (first | refine cj_seq ?_ | refine cjr TT rfl ?_ | refine oj_then ?_))
  refine cj_if rfl (fun h=>?_) (fun h=>?_)
  · have h:r = -1:=of_decide_eq_true h
    have hall:∀ y∈l,q y=false:=by
      rcases hr with ⟨-,h2⟩ | ⟨n,x,h2,-⟩
      · exact h2
      · omega
    rw [List.filter_eq_self.2 (fun y hy=>by simp [hall y hy])]
    (repeat (first | refine cj_seq ?_ | refine cjr TT rfl ?_ | refine oj_then ?_ | refine cj_ret ?_ | refine nj_then_ret ?_))
    refine nj_fret TT rfl fun β w' _ _=>?_
    exact ⟨so,sc,rfl,hsc,rfl⟩
  have h:¬ r = -1:=of_decide_eq_false h
  obtain ⟨n,x,rfl,hx,hqx,hn⟩:∃ (n:Nat) (x:GItem),r=n/\l[n]?=some x/\q x=true/\∀ y∈l.take n,q y=false:=by
    rcases hr with ⟨h2,-⟩ | h2
    · exact absurd h2 h
    · exact h2
  have D0:=DfAt.start hx hqx hn
  have hnl:=(List.getElem?_eq_some_iff.1 hx).1
  refine cj_arrAt 0 (E:=itE so sc l) rfl (show 0<l.length by omega) fun gb hgb=>?_
  have hgb:so=some ⟨gb,0,none⟩:=hgb
  subst hgb
  (repeat (first | refine cj_seq ?_ | refine cjr TT rfl ?_ | refine oj_then ?_ | refine cj_skip ?_ | refine cj_block ?_ | refine nj_then ?_ | (refine oj_add rfl rfl rfl rfl rfl rfl (by omega) ?_;refine oj_run TT rfl ?_)))
  refine cj_loop (fun (_:DfS)=>σ) (fun t=>[(0,.a (.v (.slice (some ⟨gb,0,none⟩) l.length sc))),(1,.a (.fn (.func f) caps)),(5,.a (.v (.int .i64 (t.i:Nat)))),(6,.a (.v (.int .i64 (t.j:Nat))))]) (fun _=>[]) (fun t=>[⟨some ⟨gb,0,none⟩,l.length,sc,71,5,itXs t.cur⟩]) 0
    (fun t=>DfAt (fun x=>!q x) l t.cur t.i t.j) (fun t=>l.length - t.j) ⟨n,n+1,l⟩ D0 rfl (by (repeat first | exact trivial | refine ⟨rfl,?_⟩)) (by (repeat first | exact trivial | refine ⟨rfl,?_⟩)) rfl ⟨trivial,hlt,trivial,trivial,trivial⟩ trivial fun ⟨i,j,cur⟩ D=>?_
  dsimp only at D ⊢
  have hij:=D.ij
  have hjl:=D.jl
  have hcl:=D.len
  (repeat (first | refine cj_seq ?_ | refine cjr TT rfl ?_ | refine oj_then ?_))
  refine cj_if rfl (fun h=>?_) (fun h=>?_)
  rotate_left
  · have hj0:j=l.length:=by have:=of_decide_eq_false h;omega
    have hk:=D.kept
    rw [hj0,List.take_length] at hk
    have hkl:(l.filter fun x=>!q x).length=i:=by rw [<-hk,List.length_take];omega
    have hcut:(⟨some ⟨gb,0,none⟩,l.length,sc,71,5,itXs cur⟩:AE).cut i=itE (some ⟨gb,0,none⟩) sc (l.filter fun x=>!q x):=by
      unfold AE.cut itE
      dsimp only
      rw [itXs_take,hk,hkl]
    (repeat (first | refine cj_seq ?_ | refine cjr TT rfl ?_ | refine cj_exit ?_ | refine nj_then ?_ | refine nj_then_exit ?_ | refine nj_block_out ?_))
    refine oj_slice TT i l.length rfl rfl rfl rfl rfl rfl rfl rfl rfl rfl (.inr ⟨_,_,rfl,rfl⟩) (.inl ⟨rfl,rfl⟩) (by omega) hsc hsc (oj_run TT rfl ?_)
    refine oj_cutArr 0 i rfl rfl (by show i<=l.length;omega) (congrArg (fun x=>[x]) hcut) ?_
    refine oj_clear_tail TT 0 (g:=gb) (q:=i) rfl rfl rfl rfl rfl rfl rfl rfl (Nat.le_of_eq hkl) (by show i+(l.length - i)<=sc;omega) (by
      by_cases h0:l.length - i=0
      · exact .inl h0
      · right
        rw [if_neg (by omega)]
        show some (Addr.add ⟨gb,0,none⟩ (i*5))=_
        rw [add0]) rfl rfl rfl rfl rfl rfl (oj_run TT rfl ?_)
    (repeat (first | refine cj_seq ?_ | refine cjr TT rfl ?_ | refine oj_then ?_))
    refine oj_slice_to TT i rfl rfl rfl rfl rfl rfl rfl rfl rfl rfl (by omega) hsc (oj_run TT rfl ?_)
    (repeat (first | refine oj_then ?_ | refine cj_ret ?_))
    refine nj_fret TT rfl fun β w' _ _=>?_
    exact ⟨some ⟨gb,0,none⟩,sc,by rw [hkl];rfl,by rw [hkl];omega,rfl⟩
  have hjl2:j<l.length:=by have:=of_decide_eq_true h;omega
  have hx:=List.getElem?_eq_getElem hjl2
  have hgj:=D.get hx
  generalize l[j]=y at *
  have had:∀ q:Nat,some (SV.a (AT.v (.pointer (some (Addr.add ⟨gb,0,none⟩ ((q:Int).toNat*5))))))=some (SV.a (AT.v (.pointer (some ⟨gb,q*5,none⟩)))):=fun q=>by
    rw [Int.toNat_natCast,add0]
  (repeat (first | refine cj_seq ?_ | refine cjr TT rfl ?_ | refine cj_skip ?_ | refine cj_block ?_ | refine nj_then ?_))
  refine oj_indexAddr TT rfl rfl rfl rfl rfl rfl rfl rfl rfl ⟨by omega,by omega⟩ (oj_run TT rfl ?_)
  refine oj_ldAs 0 (off:=j*5) TT (itCells y) rfl rfl rfl rfl rfl (had j) rfl rfl rfl rfl rfl (fun q c hc=>itXs_get hgj hc) (itCells_lt 0 y) (oj_run TT rfl ?_)
  (repeat (first | refine cj_seq ?_ | refine cjr TT rfl ?_ | refine oj_then ?_))
  refine oj_callP (ys:=.agg (itCells y)::caps.map ptSV) rfl rfl rfl rfl rfl hcall ⟨itCells_lt 0 y,hcap⟩ (hq σ (Snap.le_refl _) y) fun v hv=>⟨.a (.b (q y)),trivial,hv.symm,?_⟩
  refine oj_run TT rfl ?_
  (repeat refine oj_then ?_)
  refine cj_if rfl (fun h=>?_) (fun h=>?_)
  · have h:(!q y)=true:=h
    have D':=D.keep hx h
    (repeat (first | refine cj_seq ?_ | refine cjr TT rfl ?_))
    refine oj_indexAddr TT rfl rfl rfl rfl rfl rfl rfl rfl rfl ⟨by omega,by omega⟩ (oj_run TT rfl ?_)
    refine oj_stAs 0 (off:=i*5) (cs:=itCells y) (A':=[⟨some ⟨gb,0,none⟩,l.length,sc,71,5,itXs (cur.set i y)⟩]) TT rfl rfl rfl rfl (had i) rfl rfl rfl rfl rfl (by show i*5+5<=l.length*5;omega) (itCells_lt 0 y) rfl ?_ (oj_run TT rfl ?_)
    · show [_]=[_]
      rw [<-itXs_set y (by omega)]
      rfl
    (repeat (first | refine cjr TT rfl ?_ | refine oj_then ?_ | refine oj_nil ?_ | refine nj_then ?_ | refine nj_block ?_ | (refine oj_add rfl rfl rfl rfl rfl rfl (by omega) ?_;refine oj_run TT rfl ?_)))
    refine nj_again (⟨i+1,j+1,cur.set i y⟩:DfS) D' (by dsimp only;omega) rfl (by (repeat first | exact trivial | refine ⟨rfl,?_⟩)) (by (repeat first | exact trivial | refine ⟨rfl,?_⟩)) rfl ⟨trivial,hlt,trivial,trivial,trivial⟩ trivial
  · have h:(!q y)=false:=h
    have D':=D.skip hx h
    (repeat (first | refine cjr TT rfl ?_ | refine oj_nil ?_ | refine cj_skip ?_ | refine nj_then ?_ | refine nj_block ?_ | (refine oj_add rfl rfl rfl rfl rfl rfl (by omega) ?_;refine oj_run TT rfl ?_)))
    refine nj_again (⟨i,j+1,cur⟩:DfS) D' (by dsimp only;omega) rfl (by (repeat first | exact trivial | refine ⟨rfl,?_⟩)) (by (repeat first | exact trivial | refine ⟨rfl,?_⟩)) rfl ⟨trivial,hlt,trivial,trivial,trivial⟩ trivial
end Go.Sy
