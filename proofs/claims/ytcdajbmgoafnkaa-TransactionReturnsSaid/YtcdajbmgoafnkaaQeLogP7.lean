/- Texts of the proof, joined: LogP7. -/
import Derived.Test.YtcdajbmgoafnkaaQeLogP6

