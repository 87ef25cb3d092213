import Derived.Test.YtkgcbbkodalfmaaGreatDoorQ2
namespace Go.Proofs.YtkgcbbkodalfmaaGreatDoor
open Go.RowKit
set_option linter.unusedVariables false
set_option linter.unusedSimpArgs false
theorem Lb {T R X O:Type}{B:X→Option (X ⊕ O)}(l:List T)(e:List R→Nat→X)(g:T→List R)(N c:Nat)(hg:∀v ∈ l,(g v).length≤c)(fin:List R→O)(hend:∀s,B (e s l.length)=some (.inr (fin s)))
  (hstep:∀s i (h:i<l.length),s.length≤N+i*c→B (e s i)=some (.inl (e (s++g l[i]) (i+1)))) (s:List R) (hs:s.length≤N):ag B (e s 0)=some (fin (s++l.flatMap g)):=by
 have key:∀(k i:Nat) (s:List R),i+k=l.length→s.length≤N+i*c→ag B (e s i)=some (fin (s++(l.drop i).flatMap g)):=by
  intro k
  induction k with
  |zero=>
   intro i s hi hs
   have:i=l.length:=by omega
   subst this
   rw[am,hend]
   simp
  |succ k ih=>
   intro i s hi hs
   have h1:i<l.length:=by omega
   rw[am,hstep s i h1 hs]
   simp only
   have hg1:=hg l[i] (List.getElem_mem h1)
   rw[ih (i+1) _ (by omega) (by rw[List.length_append,Nat.add_mul];omega),List.drop_eq_getElem_cons h1]
   simp only[List.flatMap_cons,List.append_assoc]
 have:=key l.length 0 s (by omega) (by omega)
 simpa using this
theorem TY:∀(l:List Int) (n:Int) (M:Nat),(∀b ∈ l,b=0∨b=1)→0≤n→n<M→M*2^l.length≤4611686018427387904→0≤l.foldl (fun n b=>IntKind.i64.wrap (IntKind.i64.wrap (2*n)+b)) n∧l.foldl (fun n b=>IntKind.i64.wrap (IntKind.i64.wrap (2*n)+b)) n<((M*2^l.length:Nat):Int)
 | [],n,M,_,h0,h1,_=>by
   show 0≤n∧n<((M*2^0:Nat):Int)
   rw[Nat.pow_zero,Nat.mul_one]
   exact⟨h0,h1⟩
 |b::l,n,M,hb,h0,h1,hk=>by
  have e:M*2^(l.length+1)=(2*M)*2^l.length:=by rw[Nat.pow_succ,Nat.mul_comm (2^l.length) 2,←Nat.mul_assoc,Nat.mul_comm M 2]
  have hk:M*2^(l.length+1)≤4611686018427387904:=hk
  rw[e]at hk
  have hM:2*M≤(2*M)*2^l.length:=Nat.le_mul_of_pos_right _ (Nat.two_pow_pos _)
  have hb0:=hb b (by simp)
  have w1:IntKind.i64.wrap (2*n)=2*n:=by rw[wrap_i64]<;>omega
  have w2:IntKind.i64.wrap (2*n+b)=2*n+b:=by rw[wrap_i64]<;>omega
  have ih:=TY l (2*n+b) (2*M) (fun c hc=>hb c (by simp[hc])) (by omega) (by omega) hk
  show 0≤l.foldl _ (IntKind.i64.wrap (IntKind.i64.wrap (2*n)+b))∧l.foldl _ (IntKind.i64.wrap (IntKind.i64.wrap (2*n)+b))<((M*2^(l.length+1):Nat):Int)
  rw[w1,w2,e]
  exact ih
theorem Z0(l:List Int)(h:∀b ∈ l,b=0∨b=1):∀v ∈ K2 l,0≤v∧v≤255:=by
 intro v hv
 obtain⟨k,_,rfl⟩:=List.mem_map.1 hv
 have hl:(fQ l k).length≤8:=by rw[sz];omega
 have hp:2^(fQ l k).length≤2^8:=Nat.pow_le_pow_right (by omega) hl
 have:=TY (fQ l k) 0 1 (fun b hb=>h b (List.mem_of_mem_drop (List.mem_of_mem_take hb))) (by omega) (by omega) (by omega)
 unfold gV
 omega
theorem G6 {f:aU.T}(h:bK f=true):aS f.1 0 3=true∧aS f.2.1 0 7=true∧jc f.1 f.2.2.2.1.length=true∧jb f.2.2.2.1=true∧((f.1 != (0:Int))=true→br f.2.2.1=true):=by
 unfold bK at h
 simp only[Bool.and_eq_true]at h
 obtain⟨h1,h2,h3,h4,h5⟩:=h
 refine⟨h1,h2,h3,h4,fun hk=> ?_⟩
 have hk0:(f.1==(0:Int))=false:=by simpa using hk
 rw[hk0]at h5
 simp only[Bool.false_eq_true,if_false]at h5
 split at h5
 ·simp only[Bool.and_eq_true]at h5
  exact h5.1
 ·exact h5
theorem MW {f:aU.T}(h:bK f=true):(∀v ∈ bG f,0≤v∧v≤255)∧((bG f).length:Int)=kT f.1 f.2.2.2.1.length∧(bG f).length≤50:=by
 obtain⟨h1,h2,h3,h4,h5⟩:=G6 h
 have hd:=r9 h
 have k1:=aR.1 h1
 have k2:=aR.1 h2
 obtain⟨(k:Int),(q:Int),st,(d:List Int),⟨⟩⟩:=f
 simp only at h1 h2 h3 h4 h5 hd k1 k2
 have w1:IntKind.i64.wrap (k*64)=k*64:=by rw[wrap_i64]<;>omega
 have w2:IntKind.i64.wrap (q*8)=q*8:=by rw[wrap_i64]<;>omega
 have w3:IntKind.i64.wrap (k*64+q*8)=k*64+q*8:=by rw[wrap_i64]<;>omega
 have hb:∀v ∈ d,0≤v∧v≤255:=by
  unfold jb at h4
  simp only[Bool.and_eq_true,List.all_eq_true]at h4
  exact fun v hv=>aR.1 (h4.2 v hv)
 have e:bG (k,q,st,d,())=([k*64+q*8]++(if k != (0:Int)then K2 (nP st)else []))++(if g9 k then(d.length:Int)::d else []):=by
  unfold bG
  simp only[w1,w2,w3]
 rw[e]
 refine⟨fun v hv=> ?_, ?_, ?_⟩
 ·simp only[List.mem_append,List.mem_singleton]at hv
  rcases hv with(rfl|hv)|hv
  ·omega
  ·split at hv
   ·rename_i hk
    exact Z0 _ (UR st (h5 hk)) v hv
   ·cases hv
  ·split at hv
   ·rcases List.mem_cons.1 hv with rfl|hv
    ·omega
    ·exact hb v hv
   ·cases hv
 ·unfold kT
  simp only[List.length_append]
  split<;>split<;>simp[hU]<;>omega
 ·simp only[List.length_append]
  split<;>split<;>simp[hU]<;>omega
def di(f:aU.T)(r:Nat)(st:ab.T):List Int:=bG f++ [((bE f.1 (bG f) r st / 65536:Nat):Int),((bE f.1 (bG f) r st / 256 % 256:Nat):Int),((bE f.1 (bG f) r st % 256:Nat):Int)]
theorem Wz(f:aU.T)(r:Nat)(st:ab.T)(hf:bK f=true)(hr:r<16777216)(hst:br st=true):yT (f,(r:Int),st,())=some (di f r st,()):=by
 obtain⟨h1,_,h2⟩:=MW hf
 have hb:fW (f,())=some (bG f,()):=Wo (f,()) (by have:=r9 hf;show f.2.2.2.1.length≤_;omega)
 have hc:=TK f.1 (bG f) r st (by omega) h1 hr hst
 have ht:=MO (bE f.1 (bG f) r st) (qi f.1 (bG f) r st hr)
 have e0:yT (f,(r:Int),st,())=match fW (f,())with
  |none=>none
  |some v1=>match il (f.1,v1.1,(r:Int),st,())with
   |none=>none
   |some v2=>match kq (v2.1,())with
    |none=>none
    |some v3=>aA (v1.1.length+v3.1.length) (some ((v1.1++v3.1),())):=rfl
 rw[e0]
 simp only[hb,hc,ht]
 rw[aD (by simp;omega)]
 rfl
theorem WA(f:aU.T)(r:Nat)(st:ab.T)(hf:bK f=true)(hr:r<16777216)(hst:br st=true):o9 (f,(r:Int),st,())=some (di f r st,()):=by
 obtain⟨h1,_,h2⟩:=MW hf
 have hb:bJ (f,())=some (bG f,()):=Wp (f,()) (by have:=r9 hf;show f.2.2.2.1.length≤_;omega)
 have hc:=TL f.1 (bG f) r st (by omega) h1 hr hst
 have hn:=qi f.1 (bG f) r st hr
 have ht:=MO (bE f.1 (bG f) r st) hn
 generalize hq:bE f.1 (bG f) r st=q at hc hn ht
 have e1: [(IntKind.i64.wrap (Int.tdiv (q:Int) (65536:Int))),(Int.tmod (IntKind.i64.wrap (Int.tdiv (q:Int) (256:Int))) (256:Int)),(Int.tmod (q:Int) (256:Int))]= [((q / 65536:Nat):Int),((q / 256 % 256:Nat):Int),((q % 256:Nat):Int)]:=by
  have a1:Int.tdiv (q:Int) 65536=((q / 65536:Nat):Int):=rfl
  have a2:Int.tdiv (q:Int) 256=((q / 256:Nat):Int):=rfl
  have a3:Int.tmod (q:Int) 256=((q % 256:Nat):Int):=rfl
  have b1:IntKind.i64.wrap ((q / 65536:Nat):Int)=((q / 65536:Nat):Int):=by rw[wrap_i64]<;>omega
  have b2:IntKind.i64.wrap ((q / 256:Nat):Int)=((q / 256:Nat):Int):=by rw[wrap_i64]<;>omega
  rw[a1,a2,a3,b1,b2]
  rfl
 have e0:o9 (f,(r:Int),st,())=match bJ (f,())with
  |none=>none
  |some v1=>match jQ (f.1,v1.1,(r:Int),st,())with
   |none=>none
   |some v2=>aA (v1.1.length+ [(IntKind.i64.wrap (Int.tdiv v2.1 (65536:Int))),(Int.tmod (IntKind.i64.wrap (Int.tdiv v2.1 (256:Int))) (256:Int)),(Int.tmod v2.1 (256:Int))].length) (some ((v1.1++ [(IntKind.i64.wrap (Int.tdiv v2.1 (65536:Int))),(Int.tmod (IntKind.i64.wrap (Int.tdiv v2.1 (256:Int))) (256:Int)),(Int.tmod v2.1 (256:Int))]),())):=rfl
 rw[e0]
 simp only[hb,hc,e1]
 rw[aD (by simp;omega)]
 unfold di
 rw[hq]
theorem Fl {f:aU.T}{r:Nat}{st:ab.T}(hf:bK f=true)(hr:r<16777216):(∀v ∈ di f r st,0≤v∧v≤255)∧((di f r st).length:Int)=kT f.1 f.2.2.2.1.length+3∧(di f r st).length≤53:=by
 obtain⟨h1,h2,h3⟩:=MW hf
 have hn:=qi f.1 (bG f) r st hr
 unfold di
 refine⟨fun v hv=> ?_, ?_, ?_⟩
 ·rcases List.mem_append.1 hv with hv|hv
  ·exact h1 v hv
  ·simp only[List.mem_cons,List.not_mem_nil,or_false]at hv
   rcases hv with rfl|rfl|rfl<;>omega
 ·simp only[List.length_append,List.length_cons,List.length_nil]
  omega
 ·simp only[List.length_append,List.length_cons,List.length_nil]
  omega
def lJ(l:List Int):List Int:=(List.replicate 8 (0:Int)++ [1])++l.flatMap (fun b=>[1,0]++bD b 8)++ [0,1]
theorem II(l:List Int):((List.replicate 8 (0:Int)++ [1])++l.flatMap (fun b=>[1,0]++bD b 8)).length=9+10*l.length:=by
 have:(l.flatMap (fun b=>[1,0]++bD b 8)).length=10*l.length:=by
  induction l with
  |nil=>rfl
  |cons b l ih=>
   rw[List.flatMap_cons,List.length_append,ih]
   simp only[List.length_append,List.length_cons,List.length_nil,fL]
   omega
 rw[List.length_append,this]
 simp only[List.length_append,List.length_replicate,List.length_cons,List.length_nil]
theorem IJ(l:List Int):(lJ l).length=11+10*l.length:=by
 unfold lJ
 rw[List.length_append,II]
 simp only[List.length_cons,List.length_nil]
 omega
theorem Y2 {l:List Int}(h:∀v ∈ l,0≤v∧v≤255):∀b ∈ lJ l,b=0∨b=1:=by
 intro b hb
 unfold lJ at hb
 simp only[List.mem_append,List.mem_replicate,List.mem_flatMap,List.mem_cons,List.not_mem_nil,or_false]at hb
 rcases hb with((⟨_,rfl⟩|rfl)|⟨v,hv,(rfl|rfl)|hb⟩)|(rfl|rfl)
 ·exact .inl rfl
 ·exact .inr rfl
 ·exact .inr rfl
 ·exact .inl rfl
 ·obtain⟨h0,h1⟩:=h v hv
  obtain⟨n,rfl⟩:=Int.eq_ofNat_of_zero_le h0
  exact K0 n (by omega) 8 b hb
 ·exact .inl rfl
 ·exact .inr rfl
theorem Z1(l:List Int)(hl:l.length≤1000):rX (l,(8:Int),())=some (lJ l,()):=by
 have e:=Lb (B:=im) l (fun s i=>(s,l,(l.length:Int),(i:Int),())) (fun b=>[1,0]++bD b 8) 9 10 (fun v _=>by simp[fL]) (fun s=>.inl (s,())) (fun s=>by simp only[im,be]) (fun s i h hs=>by
  have ha:=oE (s++ [1,0]) l[i] 8 (by omega) (by simp;omega)
  have ha:bH (s++ [1,0],l[i],(8:Int),())=_:=ha
  simp only[im,a7 h,aG h (show l.length≤1099511627776 by omega),ar h,aa]
  rw[aD (by simp;omega)]
  simp only[ha,List.append_assoc]) (List.replicate 8 (0:Int)++ [1]) (by simp)
 have e:ag im ((List.replicate (8:Int).toNat (0:Int))++ [1],l,(l.length:Int),(0:Int),())=_:=e
 have hlen:=II l
 unfold rX
 simp only[e]
 rw[if_pos (show(0:Int)≤8∧(8:Int)≤8 from⟨by decide,by decide⟩),aD (by decide),aD (by decide),aD (by rw[hlen];show 9+10*l.length+2≤_;omega)]
 rfl
theorem Z2(l:List Int)(hl:l.length≤1000):p7 (l,(8:Int),())=some (lJ l,()):=by
 have e:=Lb (B:=gB) l (fun s i=>(l,s,(i:Int),())) (fun b=>[1,0]++bD b 8) 9 10 (fun v _=>by simp[fL]) (fun s=>.inl (s,())) (fun s=>by simp only[gB,be]) (fun s i h hs=>by
  have hd:List.drop i (List.take (i+1) l)= [l[i]]:=by
   rw[List.drop_take,Nat.add_sub_cancel_left,List.drop_eq_getElem_cons h]
   rfl
  have hb:=IC [l[i]] (by simp)
  have hb1:dR [l[i]]=bD l[i] 8:=by simp[dR]
  have hbd:aL l.length (some (.dat (.int .i64) ((i:Nat):Int))) (some (.dat (.int .i64) (((i+1:Nat):Int))))=some (i,i+1):=by
   unfold aL
   simp[jy,iQ]
   omega
  simp only[gB,a7 h,aG h (show l.length≤1099511627776 by omega)]
  rw[aD (by simp;omega),hbd]
  simp only[aa,hd,hb,hb1]
  rw[aD (by simp[fL];omega)]
  simp only[List.append_assoc]) (List.replicate 8 (0:Int)++ [1]) (by simp)
 have e:ag gB (l,(List.replicate (8:Int).toNat (0:Int))++ [1],(0:Int),())=_:=e
 have hlen:=II l
 unfold p7
 simp only[e]
 rw[if_pos (show(0:Int)≤8∧(8:Int)≤8 from⟨by decide,by decide⟩),aD (by decide),aD (by decide),aD (by rw[hlen];show 9+10*l.length+2≤_;omega)]
 rfl
end Go.Proofs.YtkgcbbkodalfmaaGreatDoor
namespace Go.Proofs.YtkgcbbkodalfmaaGreatDoor
open Go.RowKit
set_option linter.unusedVariables false
set_option linter.unusedSimpArgs false
theorem AE(n:Nat)(h:n≤1099511627776):mX ((n:Int),())=some (List.replicate n (1:Int),()):=by
 have hr:LH [(1:Int)] (n:Int)=some (List.replicate n 1):=by
  show(if(0:Int)≤(n:Int)∧(n:Int)≤1099511627776 then some (List.replicate ((n:Int)).toNat (1:Int))else none)=_
  rw[if_pos ⟨by omega,by omega⟩,Int.toNat_natCast]
 have hs:jh ([(1:Int)],(n:Int),())=some (List.replicate n (1:Int),()):=by
  unfold jh
  simp only[hr,aa]
 unfold mX
 simp only[hs]
theorem Rv(x:Int):∀(n:Nat) (acc:List Int),acc.length+n≤1099511627776→ag iM ((n:Int),x,acc,())=some (.inl (acc++List.replicate n x,()))
 |0,acc,_=>by
  rw[am]
  have hd:decide (((0:Nat):Int)>0)=false:=by decide
  simp only[iM,hd,List.replicate_zero,List.append_nil]
 |n+1,acc,h=>by
  rw[am]
  have hd:decide (((n+1:Nat):Int)>0)=true:=decide_eq_true (by omega)
  have hw:IntKind.i64.wrap (((n+1:Nat):Int)-1)=(n:Int):=by rw[wrap_i64]<;>omega
  simp only[iM,hd,hw]
  rw[aD (by show acc.length+1≤_;omega)]
  simp only
  rw[Rv x n (acc++ [x]) (by simp;omega),List.append_assoc,List.singleton_append,List.replicate_succ]
theorem uu(n:Nat)(x:Int)(h:n≤1099511627776):dQ ((n:Int),x,())=some (List.replicate n x,()):=by
 have e:=Rv x n [] (by simp;omega)
 unfold dQ
 simp only[e,List.nil_append]
theorem WB(v:Int)(n:Nat):∀(k i:Nat) (acc:List Int),i+k=n→acc.length+k≤1099511627776→n≤1099511627776→ag iZ (acc,v,(n:Int),(i:Int),())=some (.inl (acc++List.replicate k v,()))
 |0,i,acc,hi,_,_=>by
  have hi:i=n:=by omega
  subst hi
  rw[am]
  simp only[iZ,be,List.replicate_zero,List.append_nil]
 |k+1,i,acc,hi,h,hn=>by
  have hlt:i<n:=by omega
  rw[am]
  simp only[iZ,a7 hlt,aG hlt hn]
  rw[aD (by show acc.length+1≤_;omega)]
  simp only
  rw[WB v n k (i+1) (acc++ [v]) (by omega) (by simp;omega) hn,List.append_assoc,List.singleton_append,List.replicate_succ]
theorem Yh(acc:List Int)(v:Int)(n:Nat)(h:acc.length+n≤1099511627776):qK (acc,v,(n:Int),())=some (acc++List.replicate n v,()):=by
 have e:=WB v n n 0 acc (by omega) h (by omega)
 have e:ag iZ (acc,v,(n:Int),(0:Int),())=_:=e
 unfold qK
 simp only[e]
def fy(l:List Int):List Int:=l.flatMap fun c=>List.replicate 8 c
theorem S7(l:List Int):(fy l).length=8*l.length:=by
 unfold fy
 induction l with
 |nil=>rfl
 |cons c l ih=>rw[List.flatMap_cons,List.length_append,ih,List.length_replicate,List.length_cons];omega
theorem XM {l:List Int}(h:∀b ∈ l,b=0∨b=1)(hl:l.length≤8192):bT l=true:=by
 unfold bT
 simp only[Bool.and_eq_true,List.all_eq_true,decide_eq_true_eq]
 refine⟨by omega,fun v hv=>aR.2 ?_⟩
 rcases h v hv with rfl|rfl<;>omega
theorem WC(l:List Int)(h:∀b ∈ l,b=0∨b=1)(hl:l.length≤1024):i7 (l,())=some (fy l,(0:Int),()):=by
 have hb:=KU l (by omega)
 rw[XM h (by omega)]at hb
 have e:=Lb (B:=dt) l (fun s i=>(s,l,(l.length:Int),(i:Int),())) (fun c=>List.replicate 8 c) 0 8 (fun v _=>by simp) (fun s=>.inl (s,())) (fun s=>by simp only[dt,be]) (fun s i h hs=>by
  have ha:qK (s,l[i],(8:Int),())=some (s++List.replicate 8 l[i],()):=Yh s l[i] 8 (by omega)
  simp only[dt,a7 h,aG h (show l.length≤1099511627776 by omega),ar h,aa,ha]) [] (by simp)
 have e:ag dt ([],l,(l.length:Int),(0:Int),())=_:=e
 have hw:decide (IntKind.i64.wrap ((l.length:Int)*8)>8192)=false:=by
  have:IntKind.i64.wrap ((l.length:Int)*8)=(l.length:Int)*8:=by rw[wrap_i64]<;>omega
  rw[this]
  exact decide_eq_false (by omega)
 unfold i7
 simp only[hb,Bool.not_true,hw,e,List.nil_append]
 rfl
theorem Lc(l w:List Int)(j:Nat)(hj:j<l.length)(hj2:j<w.length)(hw:w[j]=8):∀(k i:Nat) (acc:List Int),i+k=8→acc.length+k≤1099511627776→ag fw (l,w,acc,(j:Int),(i:Int),())=some (.inl (l,w,acc++List.replicate k l[j],(j:Int),()))
 |0,i,acc,hi,_=>by
  have hi:i=8:=by omega
  subst hi
  rw[am]
  have hd:decide (((8:Nat):Int)<8)=false:=by decide
  simp only[fw,ar hj2,aa,hw,hd,List.replicate_zero,List.append_nil]
 |k+1,i,acc,hi,h=>by
  rw[am]
  have hd:decide ((i:Int)<8)=true:=by simp;omega
  have hn:IntKind.i64.wrap ((i:Int)+1)=((i+1:Nat):Int):=by rw[wrap_i64]<;>omega
  simp only[fw,ar hj2,ar hj,aa,hw,hd,hn]
  rw[aD (by show acc.length+1≤_;omega)]
  simp only
  rw[Lc l w j hj hj2 hw k (i+1) (acc++ [l[j]]) (by omega) (by simp;omega),List.append_assoc,List.singleton_append,List.replicate_succ]
theorem WD(l:List Int)(hl:l.length≤1024):mq (l,())=some (fy l,()):=by
 have hq:dQ ((l.length:Int),(8:Int),())=some (List.replicate l.length (8:Int),()):=uu l.length 8 (by omega)
 have e:=Lb (B:=fx) l (fun s i=>(l,List.replicate l.length (8:Int),s,(i:Int),())) (fun c=>List.replicate 8 c) 0 8 (fun v _=>by simp) (fun s=>.inl (s,())) (fun s=>by simp only[fx,be]) (fun s i h hs=>by
  have ha:ag fw (l,List.replicate l.length (8:Int),s,(i:Int),(0:Int),())=_:=Lc l (List.replicate l.length (8:Int)) i h (by simpa using h) (by simp) 8 0 s (by omega) (by omega)
  simp only[fx,a7 h,ha,aG h (show l.length≤1099511627776 by omega)]) [] (by simp)
 have e:ag fx (l,List.replicate l.length (8:Int),[],(0:Int),())=_:=e
 unfold mq vu
 simp only[hq,e,List.nil_append]
 rfl
noncomputable def dj(m:ac.T)(st:ab.T)(f:aU.T):Bool:=(bK f&&ji (bL m st) f)&&(!(f.1 != (0:Int))||dy ab f.2.2.1 st)
theorem Y3(d:bf.T)(f:aU.T)(hd:kU d=true)(hl:f.2.2.2.1.length≤1099511627776):i6 (d,f,())=some (bK f&&ji d f,()):=by
 have h1:fF (d,())=some (true,()):=by rw[←hd];exact Wv (d,())
 have h2:fa (f,())=some (bK f,()):=TJ (f,()) hl
 have h3:vk (d,f,())=some (ji d f,()):=TW (d,f,())
 have e0:i6 (d,f,())=match fF (d,())with
  |none=>none
  |some v1=>match v1.1 with
   |true=>match fa (f,())with
    |none=>none
    |some v2=>match v2.1 with
     |true=>match vk (d,f,())with
      |none=>none
      |some v3=>some (v3.1,())
     |false=>some (false,())
   |false=>some (false,()):=rfl
 rw[e0,h1]
 simp only[h2]
 cases bK f
 ·rfl
 ·simp only[h3,Bool.true_and]
theorem Y4(d:bf.T)(f:aU.T)(hd:kU d=true)(hl:f.2.2.2.1.length≤1099511627776):du (d,f,())=some (bK f&&ji d f,()):=by
 have h1:ex (d,())=some (true,()):=by rw[←hd];exact Rj (d,())
 have h2:cL (f,())=some (bK f,()):=MM (f,()) hl
 cases hf:bK f with
 |true=>rw[TX d f hd hf hl,Bool.true_and]
 |false=>
  rw[hf]at h2
  have e0:du (d,f,())=match ex (d,())with
   |none=>none
   |some v1=>match v1.1 with
    |true=>match cL (f,())with
     |none=>none
     |some v2=>match v2.1 with
      |true=>_
      |false=>some (false,())
    |false=>some (false,()):=rfl
  rw[e0,h1]
  simp only[h2]
  rfl
theorem WE(m:ac.T)(st:ab.T)(f:aU.T)(h:a8 m=true)(hb:aC m st=true)(hl:f.2.2.2.1.length≤1099511627776):gS (m,st,f,())=some (dj m st f,()):=by
 obtain⟨_,hd,hq⟩:=dF m st h hb
 have hf:=Y3 (bL m st) f hq hl
 have e0:gS (m,st,f,())=match az (m,st,())with
  |none=>none
  |some v1=>match i6 (v1.1,f,())with
   |none=>none
   |some v2=>match v2.1 with
    |true=>match(!(f.1 != (0:Int)))with
     |true=>some (true,())
     |false=>some ((dy ab f.2.2.1 st),())
    |false=>some (false,()):=rfl
 rw[e0,hd]
 simp only[hf]
 unfold dj
 cases bK f&&ji (bL m st) f<;>cases (!(f.1 != (0:Int)))<;>simp
theorem Z3(m:ac.T)(st:ab.T)(f:aU.T)(h:a8 m=true)(hb:aC m st=true)(hl:f.2.2.2.1.length≤1099511627776):lp (m,st,f,())=some (dj m st f,()):=by
 obtain⟨hd,_,hq⟩:=dF m st h hb
 have hf:=Y4 (bL m st) f hq hl
 have e0:lp (m,st,f,())=match cJ (m,st,())with
  |none=>none
  |some v1=>match du (v1.1,f,())with
   |none=>none
   |some v2=>match v2.1 with
    |true=>match(!(f.1 != (0:Int)))with
     |true=>some (true,())
     |false=>some ((dy ab f.2.2.1 st),())
    |false=>some (false,()):=rfl
 rw[e0,hd]
 simp only[hf]
 unfold dj
 cases bK f&&ji (bL m st) f<;>cases (!(f.1 != (0:Int)))<;>simp
noncomputable def gX(m:ac.T)(st:ab.T)(f:aU.T):Int:=match a8 m with
 |false=>1
 |true=>match aC m st with
  |false=>2
  |true=>match dj m st f with
   |false=>5
   |true=>0
theorem Y5(m:ac.T)(st:ab.T)(f:aU.T)(hz:bU m)(hl:f.2.2.2.1.length≤1099511627776):pW (m,st,f,())=some (gX m st f,()):=by
 have hM:kO (m,())=_:=Rt m hz
 have e0:pW (m,st,f,())=match dr (m,st,())with
  |none=>none
  |some v1=>match(v1.1 != (0:Int))with
   |true=>some (v1.1,())
   |false=>match gS (m,st,f,())with
    |none=>none
    |some v2=>match(!v2.1)with
     |true=>some ((5:Int),())
     |false=>some ((0:Int),()):=rfl
 have e1:dr (m,st,())=match kO (m,())with
  |none=>none
  |some v1=>match(!v1.1)with
   |true=>some ((1:Int),())
   |false=>match mf (m,st,())with
    |none=>none
    |some v2=>match(!v2.1)with
     |true=>some ((2:Int),())
     |false=>some ((0:Int),()):=rfl
 rw[e0,e1,hM]
 unfold gX
 rcases Bool.eq_false_or_eq_true (a8 m)with h1|h1<;>simp only[h1,Bool.not_true,Bool.not_false]
 ·have hB:=U0 m st h1
  simp only[hB]
  rcases Bool.eq_false_or_eq_true (aC m st)with h2|h2<;>simp only[h2,Bool.not_true,Bool.not_false]
  ·have hS:=WE m st f h1 h2 hl
   have k0:((0:Int) != 0)=false:=rfl
   simp only[k0,hS]
   cases dj m st f<;>rfl
  ·rfl
 ·rfl
end Go.Proofs.YtkgcbbkodalfmaaGreatDoor
namespace Go.Proofs.YtkgcbbkodalfmaaGreatDoor
open Go.RowKit
set_option linter.unusedVariables false
set_option linter.unusedSimpArgs false
theorem Z4(n:Nat)(hn:n≤1099511627776):jY ((),(n:Int),())=some ([],()):=by
 unfold jY
 have w0:IntKind.i64.wrap ((0:Int)-0)=0:=by decide
 have w1:IntKind.i64.wrap ((n:Int)-0)=n:=by rw[Int.sub_zero,wrap_i64]<;>omega
 have n0:decide ((n:Int)<0)=false:=by simp
 simp only[w0,w1,n0]
 by_cases h:(n:Int)>0
 ·have b1:aL 0 none (some (.dat (.int .i64) (0:Int)))=some (0,0):=rfl
  have b2:aL (List.replicate ((n:Int).toNat) (0:Int)).length none (some (.dat (.int .i64) (0:Int)))=some (0,0):=by
   have hh:(0:Int)≤0∧(0:Int)≤0∧(0:Int)≤((List.replicate ((n:Int).toNat) (0:Int)).length:Int):=⟨by omega,by omega,by omega⟩
   simp only[aL,jy,iQ]
   exact if_pos hh
  have hp:(0:Int)≤(n:Int):=by omega
  simp only[decide_eq_true h,b1,aa,hp,if_true]
  rw[aD (by rw[Int.toNat_natCast];exact hn),b2]
  rfl
 ·simp only[decide_eq_false h]
theorem XN(a b:List Int)(h:a.length+b.length≤1099511627776):gn ([a,b],())=some (a++b,()):=by
 unfold gn
 have w1:IntKind.i64.wrap ((0:Int)+(a.length:Int))=(a.length:Int):=by rw[Int.zero_add,wrap_i64]<;>omega
 have w2:IntKind.i64.wrap ((a.length:Int)+(b.length:Int))=((a.length+b.length:Nat):Int):=by rw[←Int.natCast_add,wrap_i64]<;>omega
 have n1:decide ((a.length:Int)<0)=false:=by simp
 have n2:decide (((a.length+b.length:Nat):Int)<0)=false:=by simp;omega
 have i0:aq [a,b] (0:Int)=some a:=rfl
 have i1:aq [a,b] (1:Int)=some b:=rfl
 have k1:IntKind.i64.wrap ((0:Int)+1)=1:=by decide
 have k2:IntKind.i64.wrap ((1:Int)+1)=2:=by decide
 have c0:decide ((0:Int)<2)=true:=by decide
 have c1:decide ((1:Int)<2)=true:=by decide
 have c2:decide ((2:Int)<2)=false:=by decide
 have e1:ag cu ([a,b],(0:Int),[a,b],((2:Nat):Int),(0:Int),())=some (.inl ([a,b],((a.length+b.length:Nat):Int),())):=by
  rw[am]
  simp only[cu,i0,aa,w1,n1,k1,c0,show(((2:Nat):Int))=2 from rfl]
  rw[am]
  simp only[cu,i1,aa,w2,n2,k2,c1]
  rw[am]
  simp only[cu,c2]
 have e2:ag cn ([],[a,b],((2:Nat):Int),(0:Int),())=some (.inl (a++b,())):=by
  rw[am]
  simp only[cn,i0,aa,k1,c0,show(((2:Nat):Int))=2 from rfl]
  rw[aD (by simp;omega)]
  simp only[List.nil_append]
  rw[am]
  simp only[cn,i1,aa,k2,c1]
  rw[aD (by omega)]
  simp only
  rw[am]
  simp only[cn,c2]
 have e1:ag cu ([a,b],(0:Int),[a,b],(([a,b]:List (List Int)).length:Int),(0:Int),())=_:=e1
 have e2:ag cn ([],[a,b],(([a,b]:List (List Int)).length:Int),(0:Int),())=_:=e2
 simp only[e1,Z4 _ h,e2]
theorem ug {m:ac.T}{st:ab.T}{f:aU.T}(h:dj m st f=true):bK f=true∧ji (bL m st) f=true:=by
 unfold dj at h
 simp only[Bool.and_eq_true]at h
 exact h.1
theorem Rx {m:ac.T}{st:ab.T}{f:aU.T}(r:Nat)(hr:r<16777216)(h:a8 m=true)(hb:aC m st=true)(hs:dj m st f=true):
  ∃D:Nat,(bL m st).2.2.2.1=(D:Int)∧19+10*(di f r st).length+12≤D∧D≤1000:=by
 obtain⟨hf,ht⟩:=ug hs
 obtain⟨_,_,hq⟩:=dF m st h hb
 obtain⟨_,hl,_⟩:=Fl (st:=st) hf hr
 generalize bL m st=d at hq ht
 unfold kU at hq
 unfold ji at ht
 simp only[Bool.and_eq_true,beq_iff_eq]at hq ht
 obtain⟨q1,q2,q3,q4,q5⟩:=hq
 obtain⟨t1,t2,t3⟩:=ht
 have hsz:=vJ q3
 have hbn:=AA d.2.1 d.2.2.1 hsz.1 hsz.2
 rw[t1,t2]at hl
 have q5:=aR.1 q5
 have hc:vI d.2.1 d.2.2.1=11+10*(kT d.2.1 d.2.2.1+3):=rfl
 rw[hc]at q5
 generalize (di f r st).length=k at hl ⊢
 generalize kT d.2.1 d.2.2.1=bn at hl hbn q5
 have hw:IntKind.i64.wrap (11+10*(bn+3)+20)=11+10*(bn+3)+20:=by rw[wrap_i64]<;>omega
 rw[hw]at q5
 generalize d.2.2.2.1=D at q5
 have hD:(0:Int)≤D:=by omega
 obtain⟨D,rfl⟩:=Int.eq_ofNat_of_zero_le hD
 exact⟨D,rfl,by omega,by omega⟩
def fM(m:ac.T)(st:ab.T)(f:aU.T):List Int:=(List.replicate 8 (1:Int)++lJ (di f m.1.toNat st))++List.replicate ((bL m st).2.2.2.1.toNat-(19+10*(di f m.1.toNat st).length)) 1
theorem MX {m:ac.T}{st:ab.T}{f:aU.T}(h:gX m st f=0):a8 m=true∧aC m st=true∧dj m st f=true:=by
 unfold gX at h
 cases h1:a8 m<;>rw[h1]at h
 ·cases h
 ·cases h2:aC m st<;>rw[h2]at h
  ·cases h
  ·cases h3:dj m st f<;>rw[h3]at h
   ·cases h
   ·exact⟨rfl,rfl,rfl⟩
theorem mB {m:ac.T}{st:ab.T}(h:aC m st=true):br st=true:=by
 unfold aC at h
 simp only[Bool.and_eq_true]at h
 exact h.1
theorem IK {m:ac.T}{st:ab.T}{f:aU.T}(h:gX m st f=0):(fM m st f).length≤1000∧∀b ∈ fM m st f,b=0∨b=1:=by
 obtain⟨h1,h2,h3⟩:=MX h
 obtain⟨r,hr,hr2⟩:=zr h1
 obtain⟨D,hD,d1,d2⟩:=Rx r hr2 h1 h2 h3
 obtain⟨s1,_,_⟩:=Fl (st:=st) (ug h3).1 hr2
 unfold fM
 rw[hD,hr,Int.toNat_natCast,Int.toNat_natCast]
 refine⟨?_,fun b hb=> ?_⟩
 ·rw[List.length_append,List.length_append,IJ,List.length_replicate,List.length_replicate]
  omega
 ·simp only[List.mem_append,List.mem_replicate]at hb
  rcases hb with(⟨_,rfl⟩|hb)|⟨_,rfl⟩
  ·exact .inr rfl
  ·exact Y2 s1 b hb
  ·exact .inr rfl
theorem S8(m:ac.T)(st:ab.T)(f:aU.T)(hz:bU m)(hl:f.2.2.2.1.length≤1099511627776):nL (m,st,f,())=some (if gX m st f=0 then(fM m st f,(0:Int),())else([],gX m st f,())):=by
 have hc:=Y5 m st f hz hl
 have e0:nL (m,st,f,())=match pW (m,st,f,())with
  |none=>none
  |some v1=>match(v1.1 != (0:Int))with
   |true=>some ([],v1.1,())
   |false=>match mX ((8:Int),())with
    |none=>none
    |some v2=>match yT (f,m.1,st,())with
     |none=>none
     |some v3=>match rX (v3.1,(8:Int),())with
      |none=>none
      |some v4=>match gn ([v2.1,v4.1],())with
       |none=>none
       |some v5=>match az (m,st,())with
        |none=>none
        |some v6=>match mX ((IntKind.i64.wrap (v6.1.2.2.2.1-(v5.1.length:Int))),())with
         |none=>none
         |some v7=>aA (v5.1.length+v7.1.length) (some ((v5.1++v7.1),(0:Int),())):=rfl
 rw[e0,hc]
 by_cases h:gX m st f=0
 ·obtain⟨h1,h2,h3⟩:=MX h
  obtain⟨r,hr,hr2⟩:=zr h1
  obtain⟨D,hD,d1,d2⟩:=Rx r hr2 h1 h2 h3
  have hf:=(ug h3).1
  obtain⟨s1,_,s2⟩:=Fl (st:=st) hf hr2
  have k0:(gX m st f != 0)=false:=by rw[h];rfl
  have a1:mX ((8:Int),())=some (List.replicate 8 (1:Int),()):=AE 8 (by omega)
  have a2:yT (f,m.1,st,())=some (di f r st,()):=by rw[hr];exact Wz f r st hf hr2 (mB h2)
  have a3:=Z1 (di f r st) (by omega)
  have hll:=IJ (di f r st)
  have a4:=XN (List.replicate 8 (1:Int)) (lJ (di f r st)) (by rw[List.length_replicate];omega)
  obtain⟨_,a5,_⟩:=dF m st h1 h2
  have hlen:(List.replicate 8 (1:Int)++lJ (di f r st)).length=19+10*(di f r st).length:=by rw[List.length_append,List.length_replicate,hll];omega
  have hw:IntKind.i64.wrap ((bL m st).2.2.2.1-(((List.replicate 8 (1:Int)++lJ (di f r st)).length:Nat):Int))=((D-(19+10*(di f r st).length):Nat):Int):=by
   rw[hlen,hD,wrap_i64]<;>omega
  have a6:=AE (D-(19+10*(di f r st).length)) (by omega)
  rw[if_pos h]
  simp only[k0,a1,a2,a3,a4,a5]
  have hw':IntKind.i64.wrap ((bL m st).2.2.2.1-((List.replicate 8 (1:Int)++lJ (di f r st)).length:Int))=((D-(19+10*(di f r st).length):Nat):Int):=hw
  rw[hw']
  simp only[a6]
  rw[aD (by rw[hlen,List.length_replicate];omega)]
  unfold fM
  rw[hD,hr,Int.toNat_natCast,Int.toNat_natCast]
 ·have k0:(gX m st f != 0)=true:=by simpa using h
  rw[if_neg h]
  simp only[k0]
theorem S9(m:ac.T)(st:ab.T)(f:aU.T)(hz:bU m)(h:gX m st f=0):p8 (m,st,f,())=some (fM m st f,()):=by
 obtain⟨h1,h2,h3⟩:=MX h
 obtain⟨r,hr,hr2⟩:=zr h1
 obtain⟨D,hD,d1,d2⟩:=Rx r hr2 h1 h2 h3
 have hf:=(ug h3).1
 obtain⟨s1,_,s2⟩:=Fl (st:=st) hf hr2
 have a1:dQ ((8:Int),(1:Int),())=some (List.replicate 8 (1:Int),()):=uu 8 1 (by omega)
 have a2:o9 (f,m.1,st,())=some (di f r st,()):=by rw[hr];exact WA f r st hf hr2 (mB h2)
 have a3:=Z2 (di f r st) (by omega)
 have hll:=IJ (di f r st)
 obtain⟨a5,_,_⟩:=dF m st h1 h2
 have hlen:(List.replicate 8 (1:Int)++lJ (di f r st)).length=19+10*(di f r st).length:=by rw[List.length_append,List.length_replicate,hll];omega
 have hw:IntKind.i64.wrap ((bL m st).2.2.2.1-(((List.replicate 8 (1:Int)++lJ (di f r st)).length:Nat):Int))=((D-(19+10*(di f r st).length):Nat):Int):=by
  rw[hlen,hD,wrap_i64]<;>omega
 have a6:=uu (D-(19+10*(di f r st).length)) 1 (by omega)
 have e0:p8 (m,st,f,())=aI (
  match dQ ((8:Int),(1:Int),())with
  |none=>none
  |some v1=>match o9 (f,m.1,st,())with
   |none=>none
   |some v2=>match p7 (v2.1,(8:Int),())with
    |none=>none
    |some v3=>aA (v1.1.length+v3.1.length) (
     match cJ (m,st,())with
     |none=>none
     |some v4=>match dQ ((IntKind.i64.wrap (v4.1.2.2.2.1-((v1.1++v3.1).length:Int))),(1:Int),())with
      |none=>none
      |some v5=>aA ((v1.1++v3.1).length+v5.1.length) (some (((v1.1++v3.1)++v5.1),())))):=rfl
 rw[e0]
 simp only[a1,a2,a3,a5]
 have hw':IntKind.i64.wrap ((bL m st).2.2.2.1-((List.replicate 8 (1:Int)++lJ (di f r st)).length:Int))=((D-(19+10*(di f r st).length):Nat):Int):=hw
 rw[hw',aD (by rw[List.length_replicate,hll];omega)]
 simp only[a6]
 rw[aD (by rw[hlen,List.length_replicate];omega)]
 unfold fM
 rw[hD,hr,Int.toNat_natCast,Int.toNat_natCast]
 exact eC _
theorem Y6(m:ac.T)(st:ab.T)(f:aU.T)(hz:bU m)(hl:f.2.2.2.1.length≤1099511627776):lj (m,st,f,())=some (if gX m st f=0 then(fy (fM m st f),(0:Int),())else([],gX m st f,())):=by
 have hc:=S8 m st f hz hl
 have e0:lj (m,st,f,())=match nL (m,st,f,())with
  |none=>none
  |some v1=>match(v1.2.1 != (0:Int))with
   |true=>some ([],v1.2.1,())
   |false=>match i7 (v1.1,())with
    |none=>none
    |some v2=>some v2:=rfl
 rw[e0,hc]
 by_cases h:gX m st f=0
 ·obtain⟨c1,c2⟩:=IK h
  have hn:=WC (fM m st f) c2 (by omega)
  simp only[if_pos h,hn]
  rfl
 ·have k0:(gX m st f != 0)=true:=by simpa using h
  simp only[if_neg h,k0]
end Go.Proofs.YtkgcbbkodalfmaaGreatDoor
namespace Go.Proofs.YtkgcbbkodalfmaaGreatDoor
open Go.RowKit
set_option linter.unusedVariables false
set_option linter.unusedSimpArgs false
def AG(k:Int):Bool:=(k != 1)&&(k != 5)
def EK(k:Int):Bool:=(k==4)||(k==6)
def fN(f:ax.T):Bool:=aS f.1 1 6&&(aS f.2.1 0 8192&&((if AG f.1 then aS f.2.2.1 1 8192 else f.2.2.1==(0:Int))&&(if EK f.1 then aS f.2.2.2.1 0 1 else f.2.2.2.1==(0:Int))))
theorem XO(x):q8 x=some (AG x.1,()):=by
 unfold q8 AG
 rcases Bool.eq_false_or_eq_true (x.1 != (1:Int))with h|h<;>simp only[h]<;>rfl
theorem XP(x):pT x=some (EK x.1,()):=by
 unfold pT EK
 rcases Bool.eq_false_or_eq_true (x.1==(4:Int))with h|h<;>simp only[h]<;>rfl
theorem XQ(x):oZ x=some (fN x.1,()):=by
 unfold oZ fN
 simp only[kS,XO,XP]
 rcases Bool.eq_false_or_eq_true (aS x.1.1 1 6)with h1|h1<;>rcases Bool.eq_false_or_eq_true (aS x.1.2.1 0 8192)with h2|h2<;>rcases Bool.eq_false_or_eq_true (AG x.1.1)with h3|h3<;>rcases Bool.eq_false_or_eq_true (EK x.1.1)with h4|h4<;>rcases Bool.eq_false_or_eq_true (aS x.1.2.2.1 1 8192)with h5|h5<;>rcases Bool.eq_false_or_eq_true (x.1.2.2.1==(0:Int))with h6|h6<;>simp only[h1,h2,h3,h4,h5,h6]<;>rfl
theorem XR(k:Int)(h:aS k 1 6=true):lu (k,())=some (AG k,EK k,()):=by
 have:=aR.1 h
 have hk:k=1∨k=2∨k=3∨k=4∨k=5∨k=6:=by omega
 rcases hk with rfl|rfl|rfl|rfl|rfl|rfl<;>rfl
theorem Ry(x):l6 x=some (fN x.1,()):=by
 have hz:(aS x.1.2.2.2.1 0 1&&(x.1.2.2.2.1==(0:Int)))=(x.1.2.2.2.1==(0:Int)):=by
  rcases Bool.eq_false_or_eq_true (x.1.2.2.2.1==(0:Int))with h|h
  ·have h0:x.1.2.2.2.1=0:=by simpa using h
   rw[h0];rfl
  ·rw[h,Bool.and_false]
 unfold l6 fN
 simp only[i9]
 rcases Bool.eq_false_or_eq_true (aS x.1.1 1 6)with h1|h1
 ·have hf:=XR x.1.1 h1
  simp only[h1,hf]
  rcases Bool.eq_false_or_eq_true (aS x.1.2.1 0 8192)with h2|h2<;>rcases Bool.eq_false_or_eq_true (AG x.1.1)with h3|h3<;>rcases Bool.eq_false_or_eq_true (EK x.1.1)with h4|h4<;>rcases Bool.eq_false_or_eq_true (aS x.1.2.2.1 1 8192)with h5|h5<;>rcases Bool.eq_false_or_eq_true (x.1.2.2.1==(0:Int))with h6|h6<;>rcases Bool.eq_false_or_eq_true (aS x.1.2.2.2.1 0 1)with h7|h7<;>rcases Bool.eq_false_or_eq_true (x.1.2.2.2.1==(0:Int))with h8|h8<;>simp only[h7,h8,Bool.false_and,Bool.true_and,reduceCtorEq]at hz<;>simp only[h2,h3,h4,h5,h6,h7,h8,bne]<;>rfl
 ·simp only[h1]
  rfl
def fc(l:List ax.T):Bool:=decide ((l.length:Int)≤30)&&l.all fN
theorem NM(l:List ax.T)(hl:l.length≤1099511627776):p4 (l,())=some (fc l,()):=by
 have e:=i8 (B:=gz) l (fun i=>(l,(i:Int),())) fN (.inl (l,())) (.inr (false,())) (by simp only[gz,be]) (fun i h=>by
  have hf:l6 (l[i],())=some (fN l[i],()):=Ry (l[i],())
  simp only[gz,a7 h,aG h hl,ar h,aa,hf]
  cases fN l[i]<;>simp)
 have e:ag gz (l,(0:Int),())=_:=e
 unfold p4 fc
 simp only[e]
 cases l.all fN<;>simp
theorem NN(l:List ax.T)(hl:l.length≤1099511627776):pU (l,())=some (fc l,()):=by
 have hc:=MI l hl mi (fun f=> !fN f) (fun i h=>by
  have hf:oZ (l[i],())=some (fN l[i],()):=XQ (l[i],())
  have e0:mi (l[i],())=match oZ (l[i],())with
   |none=>none
   |some v1=>some ((!v1.1),()):=rfl
  rw[e0,hf])
 have e0:pU (l,())=match(decide ((l.length:Int)≤(30:Int)))with
  |true=>match dP (l,mi,())with
   |none=>none
   |some v1=>some ((!v1.1),())
  |false=>some (false,()):=rfl
 rw[e0,hc]
 unfold fc
 rw[zj]
 cases decide ((l.length:Int)≤30)
 ·rfl
 ·simp
def chg(g:Int→Int):Nat→Nat→List Int→List Int
 |0,_,l=>l
 |k+1,i,l=>chg g k (i+1) (l.set i (g (l.getD i 0)))
theorem zt(g:Int→Int):∀(k i:Nat) (l:List Int),(chg g k i l).length=l.length
 |0,_,_=>rfl
 |k+1,i,l=>by rw[chg,zt g k,List.length_set]
theorem NP(by_:Int×Unit→Option (Int×Unit))(g:Int→Int)(hg:∀v,by_ (v,())=some (g v,()))(to:Int):∀(k i:Nat) (l:List Int),l.length≤1000000→((i+k:Nat):Int)=(if(l.length:Int)<to then(l.length:Int)else to)→ag gR (l,to,by_,(i:Int),())=some (.inl (chg g k i l,()))
 |0,i,l,hl,h=>by
  rw[am]
  have hd:decide ((i:Int)<(if(l.length:Int)<to then(l.length:Int)else to))=false:=decide_eq_false (by omega)
  simp only[gR,hd]
  rfl
 |k+1,i,l,hl,h=>by
  have hlt:i<l.length:=by split at h<;>omega
  rw[am]
  have hd:decide ((i:Int)<(if(l.length:Int)<to then(l.length:Int)else to))=true:=decide_eq_true (by omega)
  have hget:l[i]? =some l[i]:=List.getElem?_eq_getElem hlt
  simp only[gR,hd,ar hlt,aa,Int.toNat_natCast,hget,hg,aG hlt (show l.length≤1099511627776 by omega)]
  have ih:=NP by_ g hg to k (i+1) (l.set i (g l[i])) (by rw[List.length_set];exact hl) (by rw[List.length_set];omega)
  rw[ih,chg,List.getD_eq_getElem?_getD,hget]
  rfl
def vP(g:Int→Int)(l:List Int)(a b:Nat):List Int:=chg g (min b l.length-min a l.length) (min a l.length) l
theorem xf(by_:Int×Unit→Option (Int×Unit))(g:Int→Int)(hg:∀v,by_ (v,())=some (g v,()))(l:List Int)(hl:l.length≤1000000)(a b:Nat)(ha:a≤1000000):oD (l,(a:Int),(b:Int),by_,())=some (vP g l a b,()):=by
 have key:ag gR (l,(b:Int),by_,(a:Int),())=some (.inl (vP g l a b,())):=by
  by_cases h:a≤min b l.length
  ·have:=NP by_ g hg (b:Int) (min b l.length-a) a l hl (by split<;>omega)
   rw[this]
   unfold vP
   rw[Nat.min_eq_left (show a≤l.length by omega)]
  ·rw[am]
   have hd:decide ((a:Int)<(if(l.length:Int)<(b:Int)then(l.length:Int)else(b:Int)))=false:=decide_eq_false (by split<;>omega)
   simp only[gR,hd]
   unfold vP
   rw[show min b l.length-min a l.length=0 by omega]
   rfl
 unfold oD
 simp only[key]
end Go.Proofs.YtkgcbbkodalfmaaGreatDoor
namespace Go.Proofs.YtkgcbbkodalfmaaGreatDoor
open Go.RowKit
set_option linter.unusedVariables false
set_option linter.unusedSimpArgs false
def xg(v:Int):Int:=IntKind.i64.wrap (1-v)
def gF(f:ax.T):Int→Int:=if(f.1==(5:Int))=true then fun _=>1 else if(f.1==(6:Int))=true then fun _=>f.2.2.2.1 else xg
theorem MY(n k:Nat)(e:Int)(he:e=(k:Int))(hk:k≤n):aL n none (some (.dat (.int .i64) e))=some (0,k):=by
 subst he
 simp only[aL,jy,iQ,tJ]
 rw[if_pos (by omega)]
 simp
theorem Rz(n k:Nat)(e:Int)(he:e=(k:Int))(hk:k≤n):aL n (some (.dat (.int .i64) e)) none=some (k,n):=by
 subst he
 simp only[aL,jy,iQ,tJ]
 rw[if_pos (by omega)]
 simp
theorem WF(f:ax.T)(to:Nat):∀(k i:Nat) (l:List Int),l.length≤1000000→i+k=to→to≤l.length→ag dh (f,(to:Int),l,(i:Int),())=some (.inl (chg (gF f) k i l,()))
 |0,i,l,hl,h,ht=>by
  have h:i=to:=by omega
  subst h
  rw[am]
  simp only[dh,be]
  rfl
 |k+1,i,l,hl,h,ht=>by
  have hlt:i<l.length:=by omega
  have hlt2:i<to:=by omega
  have hget:l[i]? =some l[i]:=List.getElem?_eq_getElem hlt
  have hg:l.getD i 0=l[i]:=by rw[List.getD_eq_getElem?_getD,hget];rfl
  have ih:=WF f to k (i+1) (l.set i (gF f l[i])) (by rw[List.length_set];exact hl) (by omega) (by rw[List.length_set];exact ht)
  rw[am,chg,hg]
  unfold gF at ih ⊢
  rcases Bool.eq_false_or_eq_true (f.1==(5:Int))with h5|h5
  ·rw[h5]at ih ⊢
   simp only[if_true]at ih ⊢
   simp only[dh,a7 hlt2,h5,ar hlt,aa,Int.toNat_natCast,hget,aG hlt (show l.length≤1099511627776 by omega)]
   exact ih
  ·rcases Bool.eq_false_or_eq_true (f.1==(6:Int))with h6|h6
   ·rw[h5,h6]at ih ⊢
    simp only[if_true,Bool.false_eq_true,if_false]at ih ⊢
    simp only[dh,a7 hlt2,h5,h6,ar hlt,aa,Int.toNat_natCast,hget,aG hlt (show l.length≤1099511627776 by omega)]
    exact ih
   ·rw[h5,h6]at ih ⊢
    simp only[Bool.false_eq_true,if_false]at ih ⊢
    simp only[dh,a7 hlt2,h5,h6,ar hlt,aa,Int.toNat_natCast,hget,aG hlt (show l.length≤1099511627776 by omega)]
    exact ih
theorem Fm(l:List Int)(hl:l.length≤1000000)(f:ax.T)(a b:Nat)(hab:a≤b)(hb:b≤l.length):fX (l,f,(a:Int),(b:Int),())=some (.inr (chg (gF f) (b-a) a l,())):=by
 have ho:=zo l hl
 have e:=WF f b (b-a) a l hl (by omega) hb
 have e':ag dh ((f.1,f.2.1,f.2.2.1,f.2.2.2.1,()),(b:Int),l,(a:Int),())=_:=e
 unfold fX
 simp only[ho]
 first|simp only[e]|simp only[e']
noncomputable def gp(l:List Int)(f:ax.T):List Int:=
 if f.1=1 then vP xg l f.2.1.toNat (f.2.1.toNat+1)
 else if f.1=2 then vP xg l f.2.1.toNat (f.2.1.toNat+f.2.2.1.toNat)
 else if f.1=3 then l.take (min f.2.1.toNat l.length)++l.drop (min (f.2.1.toNat+f.2.2.1.toNat) l.length)
 else if f.1=4 then(if f.2.1.toNat≤l.length then l.take f.2.1.toNat++List.replicate f.2.2.1.toNat f.2.2.2.1++l.drop f.2.1.toNat else l).take 8192
 else if f.1=5 then vP (fun _=>1) l f.2.1.toNat l.length
 else vP (fun _=>f.2.2.2.1) l f.2.1.toNat (f.2.1.toNat+f.2.2.1.toNat)
theorem xW {k a c v:Int}(h:fN (k,a,c,v,())=true):(k=1∨k=2∨k=3∨k=4∨k=5∨k=6)∧(∃n:Nat,a=(n:Int)∧n≤8192)∧(∃n:Nat,c=(n:Int)∧n≤8192∧((k=2∨k=3∨k=4∨k=6)→1≤n)):=by
 unfold fN at h
 simp only[Bool.and_eq_true]at h
 obtain⟨h1,h2,h3,_⟩:=h
 have h1:=aR.1 h1
 have h2:=aR.1 h2
 refine⟨by omega,⟨a.toNat,by omega,by omega⟩, ?_⟩
 by_cases hk:k=1∨k=5
 ·have:AG k=false:=by rcases hk with rfl|rfl<;>rfl
  rw[this]at h3
  have h3:c=0:=by simpa using h3
  exact⟨0,by omega,by omega,fun h=>by omega⟩
 ·have:AG k=true:=by
   unfold AG
   simp only[Bool.and_eq_true,bne_iff_ne]
   omega
  rw[this]at h3
  have h3:=aR.1 h3
  exact⟨c.toNat,by omega,by omega,fun _=>by omega⟩
theorem Z5(l:List Int)(a c:Nat)(v:Int):gp l ((4:Int),(a:Int),(c:Int),v,())=(if a≤l.length then l.take a++List.replicate c v++l.drop a else l).take 8192:=by
 unfold gp
 rw[if_neg (show ¬(4:Int)=1 by decide),if_neg (show ¬(4:Int)=2 by decide),if_neg (show ¬(4:Int)=3 by decide),if_pos (show(4:Int)=4 from rfl)]
 simp only[Int.toNat_natCast]
theorem U4(l:List Int)(hl:l.length≤8192)(f:ax.T)(hf:fN f=true):mm (l,f,())=some (gp l f,()):=by
 obtain⟨(k:Int),(a:Int),(c:Int),(v:Int),⟨⟩⟩:=f
 obtain⟨hk,⟨a,rfl,ha⟩,⟨c,rfl,hc,hc1⟩⟩:=xW hf
 have hcl:=Ay l (by omega)
 have w1:IntKind.i64.wrap ((a:Int)+1)=((a+1:Nat):Int):=by rw[wrap_i64]<;>omega
 have w2:IntKind.i64.wrap ((a:Int)+(c:Int))=((a+c:Nat):Int):=by rw[wrap_i64]<;>omega
 have q1:∀z,iL (z,())=some (xg z,()):=fun z=>rfl
 have q2:∀z,mV (z,())=some ((fun _=>(1:Int)) z,()):=fun z=>rfl
 have q3:∀z,(fun z:Int×Unit=>mW (z.1,(k,(a:Int),(c:Int),v,()),())) (z,())=some ((fun _=>v) z,()):=fun z=>rfl
 have c1:=xf iL xg q1 l (by omega) a (a+1) (by omega)
 have c2:=xf iL xg q1 l (by omega) a (a+c) (by omega)
 have c5:=xf mV (fun _=>1) q2 l (by omega) a l.length (by omega)
 have c6:=xf (fun z=>mW (z.1,(k,(a:Int),(c:Int),v,()),())) (fun _=>v) q3 l (by omega) a (a+c) (by omega)
 have m1:(if(a:Int)<(l.length:Int)then(a:Int)else(l.length:Int))=((min a l.length:Nat):Int):=by split<;>omega
 have m2:(if((a+c:Nat):Int)<(l.length:Int)then((a+c:Nat):Int)else(l.length:Int))=((min (a+c) l.length:Nat):Int):=by split<;>omega
 have cut:∀z:List Int,aL z.length none (some (.dat (.int .i64) (if(z.length:Int)<(8192:Int)then(z.length:Int)else(8192:Int))))=some (0,min z.length 8192):=fun z=>MY _ _ _ (by split<;>omega) (Nat.min_le_left _ _)
 have cutT:∀z:List Int,List.drop 0 (List.take (min z.length 8192) z)=z.take 8192:=fun z=>by
  rw[List.drop_zero]
  by_cases hz:z.length≤8192
  ·rw[Nat.min_eq_left hz,List.take_of_length_le (Nat.le_refl _),List.take_of_length_le hz]
  ·rw[Nat.min_eq_right (by omega)]
 unfold mm
 simp only[hcl]
 rcases hk with rfl|rfl|rfl|rfl|rfl|rfl
 ·unfold gp
  simp only[show((1:Int)==1)=true from rfl,w1,c1,if_true,Int.toNat_natCast]
 ·unfold gp
  simp only[show((2:Int)==1)=false from rfl,show((2:Int)==2)=true from rfl,w2,c2,Int.toNat_natCast]
  rfl
 ·unfold gp
  have hd:jf (l,((min a l.length:Nat):Int),((min (a+c) l.length:Nat):Int),())=some (l.take (min a l.length)++l.drop (min (a+c) l.length),()):=by
   unfold jf PX
   simp only[Int.toNat_natCast]
   rw[if_pos (by omega)]
   rfl
  simp only[show((3:Int)==1)=false from rfl,show((3:Int)==2)=false from rfl,show((3:Int)==3)=true from rfl,w2,m1,m2,hd,Int.toNat_natCast]
  rfl
 ·rw[Z5]
  simp only[show((4:Int)==1)=false from rfl,show((4:Int)==2)=false from rfl,show((4:Int)==3)=false from rfl,show((4:Int)==4)=true from rfl,Int.toNat_natCast]
  by_cases hal:a≤l.length
  ·have hr:=Yh [] v c (by simp;omega)
   rw[List.nil_append]at hr
   have hi:jg (l,(a:Int),List.replicate c v,())=some (l.take a++List.replicate c v++l.drop a,()):=by
    unfold jg PY
    simp only[Int.toNat_natCast,List.length_replicate]
    have:=hc1 (by omega)
    rw[if_pos (by omega)]
    rfl
   have hd:decide ((a:Int)≤(l.length:Int))=true:=decide_eq_true (by omega)
   rw[if_pos hal]
   simp only[hd,hr,hi]
   rw[cut]
   exact congrArg (fun z:List Int=>some (z,())) (cutT _)
  ·have hd:decide ((a:Int)≤(l.length:Int))=false:=decide_eq_false (by omega)
   rw[if_neg hal]
   simp only[hd]
   rw[cut]
   exact congrArg (fun z:List Int=>some (z,())) (cutT _)
 ·unfold gp
  simp only[show((5:Int)==1)=false from rfl,show((5:Int)==2)=false from rfl,show((5:Int)==3)=false from rfl,show((5:Int)==4)=false from rfl,show((5:Int)==5)=true from rfl,c5,Int.toNat_natCast]
  rfl
 ·unfold gp
  simp only[show((6:Int)==1)=false from rfl,show((6:Int)==2)=false from rfl,show((6:Int)==3)=false from rfl,show((6:Int)==4)=false from rfl,show((6:Int)==5)=false from rfl,show((6:Int)==6)=true from rfl,w2,Int.toNat_natCast]
  simp only[c6]
  rfl
theorem U5(l:List Int)(hl:l.length≤8192)(f:ax.T)(hf:fN f=true):mZ (l,f,())=some (gp l f,()):=by
 obtain⟨(k:Int),(a:Int),(c:Int),(v:Int),⟨⟩⟩:=f
 obtain⟨hk,⟨a,rfl,ha⟩,⟨c,rfl,hc,hc1⟩⟩:=xW hf
 have w1:IntKind.i64.wrap ((a:Int)+1)=((a+1:Nat):Int):=by rw[wrap_i64]<;>omega
 have w2:IntKind.i64.wrap ((a:Int)+(c:Int))=((a+c:Nat):Int):=by rw[wrap_i64]<;>omega
 have m1:(if(a:Int)<(l.length:Int)then(a:Int)else(l.length:Int))=((min a l.length:Nat):Int):=by split<;>omega
 have m2:(if((a+c:Nat):Int)<(l.length:Int)then((a+c:Nat):Int)else(l.length:Int))=((min (a+c) l.length:Nat):Int):=by split<;>omega
 have m3:(if((a+1:Nat):Int)<(l.length:Int)then((a+1:Nat):Int)else(l.length:Int))=((min (a+1) l.length:Nat):Int):=by split<;>omega
 have cut:∀z:List Int,aL z.length none (some (.dat (.int .i64) (if(8192:Int)<(z.length:Int)then(8192:Int)else(z.length:Int))))=some (0,min z.length 8192):=fun z=>MY _ _ _ (by split<;>omega) (Nat.min_le_left _ _)
 have cutT:∀z:List Int,List.drop 0 (List.take (min z.length 8192) z)=z.take 8192:=fun z=>by
  rw[List.drop_zero]
  by_cases hz:z.length≤8192
  ·rw[Nat.min_eq_left hz,List.take_of_length_le (Nat.le_refl _),List.take_of_length_le hz]
  ·rw[Nat.min_eq_right (by omega)]
 have b1:aL l.length none (some (.dat (.int .i64) ((min a l.length:Nat):Int)))=some (0,min a l.length):=MY _ _ _ rfl (Nat.min_le_right _ _)
 have b2:aL l.length (some (.dat (.int .i64) ((min (a+c) l.length:Nat):Int))) none=some (min (a+c) l.length,l.length):=Rz _ _ _ rfl (Nat.min_le_right _ _)
 have b3:aL l.length (some (.dat (.int .i64) ((min a l.length:Nat):Int))) none=some (min a l.length,l.length):=Rz _ _ _ rfl (Nat.min_le_right _ _)
 have o0:=zo l (by omega)
 have o1:=zo (l.take (min a l.length)) (by rw[List.length_take];omega)
 have key:ku (l,(k,(a:Int),(c:Int),v,()),(l.length:Int),((min a l.length:Nat):Int),((min (a+c) l.length:Nat):Int),())=some (.inr (gp l (k,(a:Int),(c:Int),v,()),())):=by
  unfold ku gp
  rcases hk with rfl|rfl|rfl|rfl|rfl|rfl
  ·have h:=Fm l (by omega) ((1:Int),(a:Int),(c:Int),v,()) (min a l.length) (min (a+1) l.length) (by omega) (by omega)
   simp only[show((1:Int)==1)=true from rfl,w1,m3,h,if_true,Int.toNat_natCast]
   rfl
  ·have h:=Fm l (by omega) ((2:Int),(a:Int),(c:Int),v,()) (min a l.length) (min (a+c) l.length) (by omega) (by omega)
   simp only[show((2:Int)==1)=false from rfl,show((2:Int)==5)=false from rfl,show((2:Int)==3)=false from rfl,show((2:Int)==4)=false from rfl,h,Int.toNat_natCast]
   rfl
  ·simp only[show((3:Int)==1)=false from rfl,show((3:Int)==5)=false from rfl,show((3:Int)==3)=true from rfl,b1,b2,aa,List.drop_zero,List.take_length,o1,Int.toNat_natCast]
   rw[aD (by rw[List.length_take,List.length_drop];omega)]
   rfl
  ·simp only[show((4:Int)==1)=false from rfl,show((4:Int)==5)=false from rfl,show((4:Int)==3)=false from rfl,show((4:Int)==4)=true from rfl,Int.toNat_natCast]
   by_cases hal:a≤l.length
   ·have hd:decide ((a:Int)>(l.length:Int))=false:=decide_eq_false (by omega)
    have hr:=uu c v (by omega)
    simp only[hd,b1,b3,aa,List.drop_zero,List.take_length,o1,hr]
    rw[aD (by rw[List.length_take,List.length_replicate];omega),aD (by rw[List.length_append,List.length_take,List.length_replicate,List.length_drop];omega)]
    simp only[cut,cutT]
    rw[if_pos hal,Nat.min_eq_left hal]
    rfl
   ·have hd:decide ((a:Int)>(l.length:Int))=true:=decide_eq_true (by omega)
    simp only[hd,o0,if_neg hal]
    rw[List.take_of_length_le hl]
    rfl
  ·have h:=Fm l (by omega) ((5:Int),(a:Int),(c:Int),v,()) (min a l.length) l.length (by omega) (Nat.le_refl _)
   simp only[show((5:Int)==1)=false from rfl,show((5:Int)==5)=true from rfl,h,Int.toNat_natCast]
   show _=some (Sum.inr (chg _ (min l.length l.length-min a l.length) (min a l.length) l,()))
   rw[Nat.min_self]
   rfl
  ·have h:=Fm l (by omega) ((6:Int),(a:Int),(c:Int),v,()) (min a l.length) (min (a+c) l.length) (by omega) (by omega)
   simp only[show((6:Int)==1)=false from rfl,show((6:Int)==5)=false from rfl,show((6:Int)==3)=false from rfl,show((6:Int)==4)=false from rfl,h,Int.toNat_natCast]
   rfl
 unfold mZ
 simp only[w2,m1,m2,key]
 exact eC _
theorem EL(l:List Int)(hl:l.length≤8192)(f:ax.T):(gp l f).length≤8192:=by
 unfold gp vP
 split
 ·rw[zt];exact hl
 ·split
  ·rw[zt];exact hl
  ·split
   ·rw[List.length_append,List.length_take,List.length_drop]
    omega
   ·split
    ·rw[List.length_take];exact Nat.min_le_left _ _
    ·split
     ·rw[zt];exact hl
     ·rw[zt];exact hl
noncomputable def fO(l:List Int)(s:List ax.T):List Int:=s.foldl gp l
theorem EM {s:List ax.T}(h:fc s=true):s.length≤30∧∀f ∈ s,fN f=true:=by
 unfold fc at h
 simp only[Bool.and_eq_true,decide_eq_true_eq,List.all_eq_true]at h
 exact⟨by omega,h.2⟩
theorem RA(l:List Int)(hl:l.length≤8192)(s:List ax.T)(hs:fc s=true):gi (l,s,())=some (fO l s,()):=by
 obtain⟨h1,h2⟩:=EM hs
 have hcl:=Ay l (by omega)
 have e:=mz (B:=eU) s (fun z i=>(z,s,(s.length:Int),(i:Int),())) gp (fun z=>.inl (z,())) (fun z=>z.length≤8192) (fun z f _ hz=>EL z hz f) (fun z _=>by simp only[eU,be]) (fun z i h hz=>by
  have hf:=U4 z hz s[i] (h2 _ (List.getElem_mem h))
  have hf':mm (z,(s[i].1,s[i].2.1,s[i].2.2.1,s[i].2.2.2.1,()),())=_:=hf
  simp only[eU,a7 h,aG h (show s.length≤1099511627776 by omega),ar h,aa]
  first|simp only[hf]|simp only[hf']) s.length 0 l (by omega) hl
 have e:ag eU (l,s,(s.length:Int),(0:Int),())=_:=e
 unfold gi fO
 simp only[hcl,e,List.drop_zero]
theorem RB(l:List Int)(hl:l.length≤8192)(s:List ax.T)(hs:fc s=true):iz (l,s,())=some (fO l s,()):=by
 obtain⟨h1,h2⟩:=EM hs
 have hcl:=zo l (by omega)
 have e:=mz (B:=gA) s (fun z i=>(s,z,(i:Int),())) gp (fun z=>.inl (z,())) (fun z=>z.length≤8192) (fun z f _ hz=>EL z hz f) (fun z _=>by simp only[gA,be]) (fun z i h hz=>by
  have hf:=U5 z hz s[i] (h2 _ (List.getElem_mem h))
  have hf':mZ (z,(s[i].1,s[i].2.1,s[i].2.2.1,s[i].2.2.2.1,()),())=_:=hf
  simp only[gA,a7 h,aG h (show s.length≤1099511627776 by omega),ar h,aa]
  first|simp only[hf]|simp only[hf']) s.length 0 l (by omega) hl
 have e:ag gA (s,l,(0:Int),())=_:=e
 unfold iz fO
 simp only[hcl,e,List.drop_zero]
end Go.Proofs.YtkgcbbkodalfmaaGreatDoor
